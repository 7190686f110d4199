/- Part of a proof, in few files: L9g L8l L8o L8p L9h M09a G09lW. -/
import Derived.Test.YtojdnnogpffhpaaGreatDoorNHqK23
import Derived.Test.YtojdnnogpffhpaaGreatDoorNHqK22
import Derived.Test.YtojdnnogpffhpaaGreatDoorNHqK19
import Derived.Test.YtojdnnogpffhpaaGreatDoorNHqK20
import Derived.Test.YtojdnnogpffhpaaGreatDoorNHqK14
import Derived.Test.YtojdnnogpffhpaaGreatDoorNHqK15

section
namespace Go.Abs
open Go
open Classical
set_option linter.unusedVariables false
set_option linter.unusedSimpArgs false
set_option linter.unnecessarySimpa false
structure JP (V : Ws) (had : List Int) (out : Bks) : Prop where
  nd : had.Nodup
  rng : ∀ k, k ∈ had → 0 ≤ k ∧ k < V.length
  perm : out.flatten.Perm had
  ne : ∀ l, l ∈ out → l ≠ []
theorem JP.zero (V : Ws) : JP V [] [] := ⟨by simp, by simp, by simp, by simp⟩
theorem JP.step {V : Ws} {had : List Int} {out : Bks} (h : JP V had out) {ws : Ws} {ks : List Int} (hp : plS V had ws = some ks) (hw : 1 ≤ ws.length) : JP V (had ++ ks) (out ++ [sortI ks]) := by
  obtain ⟨a1, a2, a3⟩ := plS_ok ws had ks hp h.nd
  refine ⟨a1, fun k hk => ?_, ?_, fun l hl => ?_⟩
  · rcases List.mem_append.1 hk with hk | hk
    · exact h.rng k hk
    · exact a2 k hk
  · rw [List.flatten_append, List.flatten_cons, List.flatten_nil, List.append_nil]
    exact List.Perm.append h.perm (sortI_perm ks)
  · rcases List.mem_append.1 hl with hl | hl
    · exact h.ne l hl
    · simp at hl; subst hl
      intro e
      have := (sortI_perm ks).length_eq
      rw [e] at this
      simp at this; omega
theorem flat_len : ∀ (B : Bks), (∀ l, l ∈ B → l ≠ []) → B.length ≤ B.flatten.length
  | [], _ => by simp
  | l :: B, h => by
    have h1 := flat_len B fun m hm => h m (by simp [hm])
    have h2 : 1 ≤ l.length := List.length_pos_iff.2 (h l (by simp))
    rw [List.flatten_cons, List.length_append, List.length_cons]; omega
theorem JP.len {V : Ws} {had : List Int} {out : Bks} (h : JP V had out) : had.length ≤ V.length ∧ out.length ≤ V.length := by
  have h1 := nodup_int h.nd h.rng
  have h2 := flat_len out h.ne
  have h3 := h.perm.length_eq
  omega
theorem head_at0 {l : Ws} (h : 0 < l.length) : l.headD [] = l[0] := by cases l with | nil => simp at h | cons a l => rfl
theorem Parse9_loop {V : Ws} (hV : V.length ≤ 12) (L : Ls) (hL : LsOK L) : LoopP (notes_Parse_L1 V L (resN (foldN V [] [] L))) ((0 : Int), [], []) := by
  have hl1 := hL.1
  refine LoopP.natS (σ := List (Int × Int) × Bks) L.length (fun k z => ∃ had, z.1 = entE had ∧ JP V had z.2 ∧ foldN V [] [] L = foldN V had z.2 (L.drop k)) ⟨[], rfl, JP.zero V, by simp⟩ ?_
  rintro X k ⟨e, out⟩ hk ⟨had, e1, hJ, hF⟩ hX
  dsimp only at e1 hJ hF
  subst e1
  unfold notes_Parse_L1
  dsimp only
  obtain ⟨n1, n2⟩ := hJ.len
  refine IfB.dc (fun h => ?_) (fun h => ?_)
  · have hkl : k < L.length := by omega
    obtain ⟨hw, hne⟩ := hL.2 _ (List.getElem_mem hkl)
    rw [List.drop_eq_getElem_cons hkl] at hF
    have h0 : 0 < L[k].2.length := List.length_pos_iff.2 hne
    have hh : L[k].2.headD [] = L[k].2[0] := head_at0 h0
    refine ⟨L[k].1, L[k].2, Idx.nat hkl, _, Idx.nat h0, IfB.nbe (fun hb => ?_) (fun hb => IfB.dc (fun h2 => ?_) (fun h2 => ?_))⟩
    · rw [hF, foldN, if_pos (.inl (by rw [hh]; exact hb))]; rfl
    · rw [hF, foldN, if_pos (.inr (by omega))]; rfl
    · have hn : ¬ (L[k].2.headD [] ≠ bkW ∨ L[k].2.length < 2) := by
        rintro (h | h)
        · rw [hh] at h; exact h hb
        · omega
      rw [foldN, if_neg hn] at hF
      refine ⟨⟨by omega, by omega, by omega⟩, ?_⟩
      have es : sub L[k].2 (1 : Int) (L[k].2.length : Int) = L[k].2.tail := by
        cases hL2 : L[k].2 with
        | nil => exact absurd hL2 hne
        | cons a l => exact sub_tail a l
      have ht : 1 ≤ L[k].2.tail.length := by simp; omega
      have hwl := hw.1
      generalize hws : L[k].2.tail = ws at hF es ht
      have hwsl : ws.length ≤ 100000 := by rw [← hws]; simp; omega
      refine LoopP.natS (σ := List (Int × Int) × List Int) ws.length (fun j z => z.1 = entE (had ++ z.2) ∧ (had ++ z.2).Nodup ∧ (∀ k, k ∈ z.2 → 0 ≤ k ∧ k < V.length) ∧ plS V had ws = (plS V (had ++ z.2) (ws.drop j)).map (z.2 ++ ·)) ⟨by simp, by simpa using hJ.nd, by simp, by simp⟩ ?_
      rintro Y j ⟨e, ks⟩ hj ⟨e1, hnd, hrg, hpl⟩ hY
      dsimp only at e1 hnd hrg hpl
      subst e1
      unfold notes_Parse_L2
      dsimp only
      rw [es]
      have hkl2 : ks.length ≤ V.length := by
        refine nodup_int (List.nodup_append.1 hnd).2.1 hrg
      refine IfB.dc (fun h => ?_) (fun h => ?_)
      · have hjk : j < ws.length := by omega
        rw [List.drop_eq_getElem_cons hjk, plS] at hpl
        refine ⟨_, Idx.nat hjk, _, lines_Index_says V _ (by omega), IfB.dc (fun hneg => ?_) (fun hpos => ?_)⟩
        · rw [if_neg (fun hc => (idxN_neg.1 hneg) hc.1)] at hpl
          rw [hF, hpl]; rfl
        · have hin : ws[j] ∈ V := Decidable.byContradiction fun hn => hpos (idxN_neg.2 hn)
          by_cases hd : idxN V ws[j] ∈ had ++ ks
          · rw [if_neg (fun hc => hc.2 hd)] at hpl
            refine ⟨1, true, true, ⟨entE_in hd, rfl⟩, IfB_true.2 ?_⟩
            rw [hF, hpl]; rfl
          · rw [if_pos ⟨hin, hd⟩] at hpl
            refine ⟨0, false, false, ⟨entE_out hd, rfl⟩, IfB_false.2 ⟨by rw [entE_out hd], by unfold Fits; simp; omega, ?_⟩⟩
            rw [wrap64' (by omega) (by omega)]
            have hi := idxN_at hin
            refine hY _ hjk ⟨by simp [entE], ?_, fun q hq => ?_, ?_⟩
            · dsimp only
              rw [← List.append_assoc, List.nodup_append]
              exact ⟨hnd, by simp, fun a ha b hb => by simp at hb; subst hb; exact fun e => hd (e ▸ ha)⟩
            · dsimp only at hq
              rcases List.mem_append.1 hq with hq | hq
              · exact hrg q hq
              · simp at hq; subst hq; rw [hi.1]; omega
            · dsimp only
              rw [hpl, ← List.append_assoc, Option.map_map]
              congr 1
              funext z
              simp
      · have ej : j = ws.length := by omega
        subst ej
        rw [List.drop_length, plS] at hpl
        simp only [Option.map_some, List.append_nil] at hpl
        rw [hpl] at hF
        obtain ⟨x, hx⟩ := Len_says (n := ks.length) (by omega)
        refine ⟨x, hx, LoopP.once fun Z hZ => ?_⟩
        unfold notes_Parse_L3
        rw [wrap64' (by omega) (by omega)]
        refine IfB.dc (fun _ => ?_) (fun h => by omega)
        refine sort4 (by omega) (by omega) ?_ (by omega)
        exact hX _ hkl ⟨had ++ ks, rfl, hJ.step hpl ht, hF⟩
  · have ek : k = L.length := by omega
    subst ek
    rw [List.drop_length, foldN] at hF
    rw [hF]
    obtain ⟨x, hx⟩ := Len_says (n := out.length) (by omega)
    refine ⟨x, hx, LoopP.once fun Z hZ => ?_⟩
    unfold notes_Parse_L6
    rw [wrap64' (by omega) (by omega)]
    refine IfB.dc (fun _ => ?_) (fun h => by omega)
    refine sort7 (hJ.perm.nodup_iff.2 hJ.nd) hJ.ne (fun k hk => ?_) (by omega)
    have := hJ.rng k (hJ.perm.mem_iff.1 hk)
    omega
theorem Parse9_says {V : Ws} {C : List Fr} {R : List MRow} {s : By} (hm : MayM V C R) (hV : V.length ≤ 12) (hl : s.length ≤ 65536) (hr : RightP s) : notes_Parse V C R s (resN (foldN V [] [] (allL s))) := by
  unfold notes_Parse
  have h1 := model_Right_says V C R
  rw [decide_eq_true hm] at h1
  exact ⟨_, h1, IfB_true.2 ⟨_, _, lines_All_says hl hr, IfB.neI (fun h => absurd rfl h) (fun _ => Parse9_loop hV _ (allLs_ok hl))⟩⟩
def wdsB (V : Ws) (l : List Int) : Ws := bkW :: l.map fun k => V.getD k.toNat []
def printB (V : Ws) (B : Bks) : List Ws := B.map (wdsB V)
theorem name_len {v : By} (h : NameP v) : v.length ≤ 16 := h.2.1
theorem wdsB_wlen {V : Ws} (hV : ∀ v, v ∈ V → v.length ≤ 16) : ∀ (l : List Int), wlen (wdsB V l) ≤ 6 + 17 * l.length := by
  intro l
  unfold wdsB
  have : ∀ l : List Int, wlen (l.map fun k => V.getD k.toNat []) ≤ 17 * l.length := by
    intro l
    induction l with
    | nil => simp [wlen]
    | cons k l ih =>
      have h1 : (V.getD k.toNat []).length ≤ 16 := by
        by_cases h : k.toNat < V.length
        · rw [List.getD_eq_getElem?_getD, List.getElem?_eq_getElem h]; exact hV _ (List.getElem_mem h)
        · rw [List.getD_eq_getElem?_getD, List.getElem?_eq_none (by omega)]; simp
      simp only [List.map_cons, wlen, List.map_cons, List.sum_cons, List.length_cons] at ih ⊢
      omega
  have h2 := this l
  simp only [wlen, List.map_cons, List.sum_cons] at h2 ⊢
  have : bkW.length = 5 := rfl
  omega
theorem Print9_says {V : Ws} {C : List Fr} {R : List MRow} {B : Bks} (hB : FewB B) (hok : okBs V.length B) (hm : MayM V C R) : notes_Print V C R B (linesT (printB V B), 0) := by
  unfold notes_Print
  have hR := Right9_says V C R hB (by have := hm.1; omega)
  rw [decide_eq_true ⟨hok, hm⟩] at hR
  refine ⟨_, hR, IfB_true.2 ?_⟩
  have b1 := hB.1
  have nm : ∀ v, v ∈ V → v.length ≤ 16 := fun v hv => name_len (hm.2.2.2.1.2 v hv)
  have ll : ∀ ws, ws ∈ printB V B → wlen ws + 1 ≤ 200 := fun ws hw => by
    obtain ⟨l, hl, rfl⟩ := List.mem_map.1 hw
    have := wdsB_wlen nm l
    have := hB.2 l hl
    omega
  have tk : ∀ k, k ≤ B.length → (linesT ((printB V B).take k)).length ≤ 2000 := fun k hk => by
    have := linesT_len ((printB V B).take k) 200 fun ws hw => ll ws (List.mem_of_mem_take hw)
    have h2 : ((printB V B).take k).length ≤ 10 := by simp [printB]; omega
    omega
  refine LoopP.nat2 B.length (fun k s => s = linesT ((printB V B).take k)) (by simp [linesT]) ?_
  rintro X k s hk rfl hX
  unfold notes_Print_L1
  dsimp only
  refine IfB.dc (fun h => ?_) (fun h => ?_)
  · have hkl : k < B.length := by omega
    have b2 := hB.2 _ (List.getElem_mem hkl)
    refine ⟨_, Idx.nat hkl, ?_⟩
    refine LoopP.natS B[k].length (fun j ws => ws = bkW :: (B[k].take j).map fun k => V.getD k.toNat []) (by simp; rfl) ?_
    rintro Y j ws hj rfl hY
    unfold notes_Print_L2
    dsimp only
    refine IfB.dc (fun h => ?_) (fun h => ?_)
    · have hjk : j < B[k].length := by omega
      obtain ⟨a1, a2, _⟩ := hok.1.at hkl hjk
      have hlt : B[k][j].toNat < V.length := by omega
      refine ⟨_, Idx.nat hjk, V.getD B[k][j].toNat [], ⟨a1, by rw [List.getD_eq_getElem?_getD, List.getElem?_eq_getElem hlt]; rfl⟩, by unfold Fits; simp; omega, ?_⟩
      rw [wrap64' (by omega) (by omega)]
      refine hY _ hjk ?_
      rw [take_succ hjk, List.map_append]; rfl
    · have ej : j = B[k].length := by omega
      subst ej
      rw [List.take_length]
      have e : (bkW :: B[k].map fun k => V.getD k.toNat []) = wdsB V B[k] := rfl
      have hkp : k < (printB V B).length := by simp [printB]; omega
      have hw := wdsB_wlen nm B[k]
      have hlt := lineT_len (wdsB V B[k])
      have e2 : (printB V B)[k] = wdsB V B[k] := by simp [printB]
      have t1 := tk k hk
      rw [e]
      refine ⟨_, lines_Join_says (by omega), by unfold Fits; simp; omega, by unfold Fits; simp; omega, ?_⟩
      rw [wrap64' (by omega) (by omega)]
      refine hX _ hkl ?_
      rw [take_succ hkp, linesT_app, e2]
      simp [linesT]
  · have ek : k = B.length := by omega
    subst ek
    rw [List.take_of_length_le (by simp [printB])]
end Go.Abs
end

section
namespace Go.Abs
open Go
open Classical
set_option linter.unusedVariables false
set_option linter.unusedSimpArgs false
set_option linter.unnecessarySimpa false
end Go.Abs
end

section
namespace Go.Abs
open Go
open Classical
set_option linter.unusedVariables false
set_option linter.unusedSimpArgs false
set_option linter.unnecessarySimpa false
def Short10 (q : Rat) : Prop := (decT q.num.natAbs).length ≤ 400 ∧ (decT q.den).length ≤ 400
end Go.Abs
end

section
namespace Go.Abs
open Go
open Classical
set_option linter.unusedVariables false
set_option linter.unusedSimpArgs false
set_option linter.unnecessarySimpa false
structure QMay (V : Ws) (C : List Rat) (R : List QRow) : Prop where
  v60 : V.length ≤ 60
  cl : C.length = V.length
  r60 : R.length ≤ 60
  nv : NamesP V
  nr : NamesP (R.map (·.1))
  rows : ∀ r, r ∈ R → r.2.1.length = V.length ∧ -1 ≤ r.2.2.1 ∧ r.2.2.1 ≤ 1
  sc : ∀ q, q ∈ C → Short10 q
  sr : ∀ r, r ∈ R → (∀ q, q ∈ r.2.1 → Short10 q) ∧ Short10 r.2.2.2
theorem name_wd {v : By} (h : NameP v) : wdOK v := by
  refine ⟨fun e => by have := h.1; rw [e] at this; simp at this, fun b hb => ?_⟩
  obtain ⟨i, hi, rfl⟩ := List.mem_iff_getElem.1 hb
  have := h.2.2 i v[i] hi (List.getElem?_eq_getElem hi)
  unfold nmOk at this
  omega
end Go.Abs
end

section
namespace Go.Abs
open Go
open Classical
set_option linter.unusedVariables false
set_option linter.unusedSimpArgs false
set_option linter.unnecessarySimpa false
theorem idxN_nd {V : Ws} (hn : V.Nodup) {k : Int} (h0 : 0 ≤ k) (h1 : k < V.length) : V.getD k.toNat [] ∈ V ∧ idxN V (V.getD k.toNat []) = k := by
  have hk : k.toNat < V.length := by omega
  have e : V.getD k.toNat [] = V[k.toNat] := by rw [List.getD_eq_getElem?_getD, List.getElem?_eq_getElem hk]; rfl
  rw [e]
  have hm := List.getElem_mem hk
  refine ⟨hm, ?_⟩
  rw [(idxN_at hm).1, idx_nodup hk hn]; omega
theorem plS_back {V : Ws} (hn : V.Nodup) : ∀ (l had : List Int), (had ++ l).Nodup → (∀ k, k ∈ l → 0 ≤ k ∧ k < V.length) → plS V had (l.map fun k => V.getD k.toNat []) = some l
  | [], had, _, _ => rfl
  | k :: l, had, hd, hr => by
    obtain ⟨h1, h2⟩ := hr k (by simp)
    obtain ⟨a, b⟩ := idxN_nd hn h1 h2
    have hk : k ∉ had := fun hh => by
      rw [List.nodup_append] at hd
      exact hd.2.2 k hh k (by simp) rfl
    rw [List.map_cons, plS, b, if_pos ⟨a, hk⟩, plS_back hn l (had ++ [k]) (by simpa using hd) (fun q hq => hr q (by simp [hq]))]
    rfl
theorem fold_back {V : Ws} (hn : V.Nodup) : ∀ (P : Bks) (had : List Int) (out : Bks) (n : Int), (had ++ P.flatten).Nodup → (∀ k, k ∈ P.flatten → 0 ≤ k ∧ k < V.length) → (∀ l, l ∈ P → l ≠ []) → foldN V had out (linesN n (P.map (wdsB V))) = .inr (out ++ P.map sortI)
  | [], had, out, n, _, _, _ => by simp [linesN, foldN]
  | l :: P, had, out, n, hd, hr, hne => by
    have h1 : 1 ≤ l.length := List.length_pos_iff.2 (hne l (by simp))
    rw [List.flatten_cons] at hd hr
    rw [← List.append_assoc] at hd
    rw [List.map_cons, linesN, foldN, if_neg]
    · have hp : plS V had (wdsB V l).tail = some l := plS_back hn l had (List.nodup_append.1 hd).1 (fun k hk => hr k (by simp [hk]))
      simp only [hp]
      rw [fold_back hn P _ _ _ hd (fun k hk => hr k (by simp [hk])) (fun m hm => hne m (by simp [hm]))]
      simp
    · rintro (h | h)
      · exact h rfl
      · simp [wdsB] at h; omega
theorem wdsB_ok {V : Ws} (hV : ∀ v, v ∈ V → NameP v) {l : List Int} (hr : ∀ k, k ∈ l → 0 ≤ k ∧ k < V.length) : wdsB V l ≠ [] ∧ ∀ w, w ∈ wdsB V l → wdOK w := by
  refine ⟨by simp [wdsB], fun w hw => ?_⟩
  rcases List.mem_cons.1 hw with rfl | hw
  · exact ⟨by simp [bkW], fun b hb => by simp [bkW] at hb; rcases hb with rfl | rfl | rfl | rfl | rfl <;> decide⟩
  · obtain ⟨k, hk, rfl⟩ := List.mem_map.1 hw
    obtain ⟨h1, h2⟩ := hr k hk
    have hk : k.toNat < V.length := by omega
    rw [List.getD_eq_getElem?_getD, List.getElem?_eq_getElem hk]
    exact name_wd (hV _ (List.getElem_mem hk))
theorem texts_len {V : Ws} (nm : ∀ v, v ∈ V → v.length ≤ 16) {P : Bks} (hP : FewB P) (k : Nat) : (linesT ((P.map (wdsB V)).take k)).length ≤ 2000 := by
  have := linesT_len ((P.map (wdsB V)).take k) 200 fun ws hw => by
    obtain ⟨l, hl, rfl⟩ := List.mem_map.1 (List.mem_of_mem_take hw)
    have := wdsB_wlen nm l
    have := hP.2 l hl
    omega
  have h2 : ((P.map (wdsB V)).take k).length ≤ 10 := by have := hP.1; simp; omega
  omega
theorem parse_back9 {V : Ws} {C : List Fr} {R : List MRow} {B P : Bks} (hm : MayM V C R) (hV : V.length ≤ 12) (hB : okBs V.length B) (hP : FewB P) (hp : (P.map sortI).Perm B) : notes_Parse V C R (linesT (P.map (wdsB V))) (B, 0, 0) := by
  have hne : ∀ l, l ∈ B → l ≠ [] := fun l hl => (hB.2.1 l hl).1
  have fl : P.flatten.Perm B.flatten := by
    have h1 : ∀ P : Bks, P.flatten.Perm (P.map sortI).flatten := by
      intro P
      induction P with
      | nil => exact List.Perm.refl _
      | cons l P ih => rw [List.map_cons, List.flatten_cons, List.flatten_cons]; exact List.Perm.append (sortI_perm l).symm ih
    exact (h1 P).trans hp.flatten
  have hnd : P.flatten.Nodup := fl.nodup_iff.2 hB.1.2
  have hr : ∀ k, k ∈ P.flatten → 0 ≤ k ∧ k < V.length := fun k hk => hB.1.1 k (fl.mem_iff.1 hk)
  have hneP : ∀ l, l ∈ P → l ≠ [] := fun l hl e => by
    have := hne (sortI l) (hp.mem_iff.1 (List.mem_map.2 ⟨l, hl, rfl⟩))
    subst e
    exact this (by simp [sortI])
  have nmP : ∀ v, v ∈ V → NameP v := hm.2.2.2.1.2
  have hw : ∀ ws, ws ∈ P.map (wdsB V) → ws ≠ [] ∧ ∀ w, w ∈ ws → wdOK w := fun ws hw => by
    obtain ⟨l, hl, rfl⟩ := List.mem_map.1 hw
    exact wdsB_ok nmP fun k hk => hr k (List.mem_flatten.2 ⟨l, hl, hk⟩)
  have hl := texts_len (V := V) (fun v hv => name_len (nmP v hv)) hP (P.map (wdsB V)).length
  rw [List.take_length] at hl
  have := Parse9_says (s := linesT (P.map (wdsB V))) hm hV (by omega) (linesT_rightP hw)
  rw [allL_T hw, fold_back hm.2.2.2.1.1 P [] [] 0 (by simpa using hnd) hr hneP] at this
  have e : sortB ([] ++ P.map sortI) = B := by
    rw [List.nil_append]
    have h1 : B.flatten.Nodup := hB.1.2
    refine (sortB_eq (B := P.map sortI) (d := B) ?_ ?_ ?_ hp.symm).symm
    · exact hp.flatten.nodup_iff.2 h1
    · exact fun l hl => hne l (hp.mem_iff.1 hl)
    · have := hB.2.2
      rw [List.pairwise_cons] at this
      have h2 := List.pairwise_map.1 this.2
      exact h2.imp fun h => Int.le_of_lt h
  rw [resN, e] at this
  exact this
end Go.Abs
end

section
namespace Go.Abs
open Go.RowKit Go.Proofs
set_option maxRecDepth 100000
set_option linter.unusedVariables false
set_option linter.unusedSimpArgs false
def V9 : Ws := [[120], [121], [122]]
def q9 : Fr := (false, [1], [1])
def C9 : List Fr := [q9, q9, q9]
def B9 : Bks := [[0, 1], [2]]
def P9 : Bks := [[2], [1, 0]]
def t9 : By := [98, 108, 111, 99, 107, 32, 122, 10, 98, 108, 111, 99, 107, 32, 121, 32, 120, 10]
def u9 : By := [98, 108, 111, 99, 107, 32, 120, 32, 121, 10, 98, 108, 111, 99, 107, 32, 122, 10]
theorem name1 {c : UInt8} (h1 : 97 ≤ c.toNat) (h2 : c.toNat ≤ 122) : NameP [c] := ⟨by simp, by simp, fun i b hi hb => by
  have : i = 0 := by simpa using hi
  subst this
  simp at hb; subst hb
  exact .inl ⟨h1, h2⟩⟩
theorem may9 : MayM V9 C9 [] := by
  refine ⟨by decide, by decide, by decide, ⟨by decide, fun v hv => ?_⟩, ⟨by decide, fun v hv => by simp at hv⟩, fun r hr => by simp at hr⟩
  simp [V9] at hv
  rcases hv with rfl | rfl | rfl <;> exact name1 (by decide) (by decide)
theorem okB9 : okBs V9.length B9 := by
  refine ⟨⟨by decide, by decide⟩, fun l hl => ?_, by decide⟩
  simp [B9] at hl
  rcases hl with rfl | rfl <;> decide
theorem perm9 : (P9.map sortI).Perm B9 := by
  have h1 : sortI [2] = [2] := (sortI_eq (l := [2]) (d := [2]) (by simp [SrtK]) (List.Perm.refl _)).symm
  have h2 : sortI [1, 0] = [0, 1] := (sortI_eq (l := [1, 0]) (d := [0, 1]) (by simp [SrtK]) (List.Perm.swap _ _ _)).symm
  show [sortI [2], sortI [1, 0]].Perm [[0, 1], [2]]
  rw [h1, h2]
  exact List.Perm.swap _ _ _
theorem fewP9 : FewB P9 := ⟨by decide, fun l hl => by
  simp [P9] at hl
  rcases hl with rfl | rfl <;> decide⟩
theorem fewB9 : FewB B9 := ⟨by decide, fun l hl => by
  simp [B9] at hl
  rcases hl with rfl | rfl <;> decide⟩
theorem parse9 : notes_Parse V9 C9 [] t9 (B9, 0, 0) := parse_back9 may9 (by decide) okB9 fewP9 perm9
theorem print9 : notes_Print V9 C9 [] B9 (u9, 0) := Print9_says fewB9 okB9 may9
theorem home9 : notes_Home V9 C9 [] B9 [0, 0, 1] := by
  have h := Home9_says V9 C9 [] fewB9 (by decide)
  rw [if_pos ⟨okB9, may9⟩] at h
  exact h
theorem int9 : rat_Int 1 q9 := by
  have h := sg1 false
  unfold sgF at h
  rw [words_one (by omega) (by omega)] at h
  exact h
def m9 : AV := .agg [.pd (.sl (V9.map elS)), .pd (.sl (C9.map elQ1)), .pd (.sl [])]
def n9 : AV := .agg [.pd (.sl (B9.map elQ3))]
def tab9 : List (FuncId × List AV × AV) := [(43, [.pd (.int .i64 1)], .agg [.pd (.bool false), .pd (.sl [.int .u32 1]), .pd (.sl [.int .u32 1])]), (10, [m9, .pd (.str t9)], .tup [n9, .pd (.int .i64 0), .pd (.int .i64 0)]), (22, [m9, n9], .tup [.pd (.str u9), .pd (.int .i64 0)]), (19, [m9, n9], .pd (.sl [.int .i64 0, .int .i64 0, .int .i64 1]))]
theorem tab9_ok (m : Tp) : TabOK Tryz.prog (gtT m) tab9 :=
  .cons (rat_Int_ok m 1 int9) (hasT 43 (by kernel_rfl)) rfl (.cons (notes_Parse_ok m V9 C9 [] t9 parse9) (hasT 10 (by kernel_rfl)) rfl (.cons (notes_Print_ok m V9 C9 [] B9 print9) (hasT 22 (by kernel_rfl)) rfl (.cons (notes_Home_ok m V9 C9 [] B9 home9) (hasT 19 (by kernel_rfl)) rfl .nil)))
def orc0 (g : FuncId) (args : List AV) (M : Mem) : Option (AV × Mem × Bool) := none
theorem orc0_ok (m : Tp) (f : FuncId) (args : List AV) (M : Mem) (z : AV × Mem × Bool) (h : orc0 f args M = some z) : CallOK Tryz.prog (gtT m) f args M z := by cases h
theorem awake_runs09 (m : Tp) : saysTrue Tryz.prog (gtT m) (orcT tab9 orc0) (fun _ => false) 400 9 [] = true := by kernel_rfl
theorem offcutlaw09_awake_ok (m : Tp) {r : Bool} (h : offcutlaw09_awake r) : ASpec Tryz.prog (gtT m) 9 [] (· = .pd (.bool r)) := by
  obtain rfl := h
  exact saysTrue_ok mixedT namesT (orcT_ok (tab9_ok m) (orc0_ok m)) (awake_runs09 m)
end Go.Abs
end

section
namespace Go.Abs
open Go.Proofs
set_option maxHeartbeats 4000000
set_option maxRecDepth 20000
set_option linter.unusedVariables false
set_option linter.unusedSimpArgs false
set_option linter.unnecessarySimpa false
theorem offcutlaw09_NotesHomes_ok (m : Tp) (p0 : List (List UInt8)) (p1 : List (Bool × (List Int) × (List Int))) (p2 : List ((List UInt8) × (List (Bool × (List Int) × (List Int))) × Int × Bool × (List Int) × (List Int))) (p3 : List (List Int)) {r : Bool} (h : offcutlaw09_NotesHomes p0 p1 p2 p3 r) : ASpec Tryz.prog (gtT m) 6 [.agg [.pd (.sl (p0.map elS)), .pd (.sl (p1.map elQ1)), .pd (.sl (p2.map elQ0))], .agg [.pd (.sl (p3.map elQ3))]] (· = .pd (.bool r)) := by
  refine ASpec_tree Tryz.f6 mixedT (askZ [9, 10, 11] false [29] [26]) (by kernel_rfl) ?_
  unfold offcutlaw09_NotesHomes at h
  let o1 : Ob := .cells [.pd (.sl (p0.map elS)), .pd (.sl (p1.map elQ1)), .pd (.sl (p2.map elQ0))] 1 0 false
  refine H_askK (.ptr 0 0 0) ([o1]) (by kernel_rfl) ?_
  let o2 : Ob := .cells [.pd (.sl (p3.map elQ3))] 1 0 false
  refine H_askK (.ptr 1 0 0) ([o1, o2]) (by kernel_rfl) ?_
  refine H_askK (.agg [.pd (.sl (p0.map elS)), .pd (.sl (p1.map elQ1)), .pd (.sl (p2.map elQ0))]) ([o1, o2]) (by kernel_rfl) ?_
  obtain ⟨x1, hx2, h⟩ := h
  refine H_valW (g := 8) (args := [.agg [.pd (.sl (p0.map elS)), .pd (.sl (p1.map elQ1)), .pd (.sl (p2.map elQ0))]]) (M := [o1, o2]) (.pd (.bool x1)) (.inl (by kernel_rfl)) (by kernel_rfl) (offcutlaw08_Few_ok m _ _ _ hx2) (by kernel_rfl) (hasT 8 (by kernel_rfl)) ?_
  cases x1
  · replace h := h.f rfl
    obtain ⟨x80, hx81, h⟩ := h
    refine H_valW (g := 9) (args := []) (M := [o1, o2]) (.pd (.bool x80)) (.inl (by kernel_rfl)) (by kernel_rfl) (offcutlaw09_awake_ok m  hx81) (by kernel_rfl) (hasT 9 (by kernel_rfl)) ?_
    cases x80
    · replace h := h.f rfl
      exact H_end .ret (.pd (.bool false)) (by kernel_rfl) rfl (by kernel_rfl) (by subst h; rfl)
    replace h := h.t rfl
    exact H_end .ret (.pd (.bool true)) (by kernel_rfl) rfl (by kernel_rfl) (by subst h; rfl)
  replace h := h.t rfl
  refine H_askK (.agg [.pd (.sl (p3.map elQ3))]) ([o1, o2]) (by kernel_rfl) ?_
  obtain ⟨x3, hx4, h⟩ := h
  refine H_valW (g := 16) (args := [.agg [.pd (.sl (p3.map elQ3))]]) (M := [o1, o2]) (.pd (.bool x3)) (.inl (by kernel_rfl)) (by kernel_rfl) (offcutlaw09_few_ok m _ hx4) (by kernel_rfl) (hasT 16 (by kernel_rfl)) ?_
  cases x3
  · replace h := h.f rfl
    obtain ⟨x78, hx79, h⟩ := h
    refine H_valW (g := 9) (args := []) (M := [o1, o2]) (.pd (.bool x78)) (.inl (by kernel_rfl)) (by kernel_rfl) (offcutlaw09_awake_ok m  hx79) (by kernel_rfl) (hasT 9 (by kernel_rfl)) ?_
    cases x78
    · replace h := h.f rfl
      exact H_end .ret (.pd (.bool false)) (by kernel_rfl) rfl (by kernel_rfl) (by subst h; rfl)
    replace h := h.t rfl
    exact H_end .ret (.pd (.bool true)) (by kernel_rfl) rfl (by kernel_rfl) (by subst h; rfl)
  replace h := h.t rfl
  refine H_askK (.agg [.pd (.sl (p0.map elS)), .pd (.sl (p1.map elQ1)), .pd (.sl (p2.map elQ0))]) ([o1, o2]) (by kernel_rfl) ?_
  refine H_askK (.agg [.pd (.sl (p3.map elQ3))]) ([o1, o2]) (by kernel_rfl) ?_
  obtain ⟨x5, hx6, h⟩ := h
  refine H_valW (g := 17) (args := [.agg [.pd (.sl (p0.map elS)), .pd (.sl (p1.map elQ1)), .pd (.sl (p2.map elQ0))], .agg [.pd (.sl (p3.map elQ3))]]) (M := [o1, o2]) (.pd (.bool x5)) (.inl (by kernel_rfl)) (by kernel_rfl) (offcutlaw09_right_ok m _ _ _ _ hx6) (by kernel_rfl) (hasT 17 (by kernel_rfl)) ?_
  cases x5
  · replace h := h.f rfl
    obtain ⟨x76, hx77, h⟩ := h
    refine H_valW (g := 9) (args := []) (M := [o1, o2]) (.pd (.bool x76)) (.inl (by kernel_rfl)) (by kernel_rfl) (offcutlaw09_awake_ok m  hx77) (by kernel_rfl) (hasT 9 (by kernel_rfl)) ?_
    cases x76
    · replace h := h.f rfl
      exact H_end .ret (.pd (.bool false)) (by kernel_rfl) rfl (by kernel_rfl) (by subst h; rfl)
    replace h := h.t rfl
    exact H_end .ret (.pd (.bool true)) (by kernel_rfl) rfl (by kernel_rfl) (by subst h; rfl)
  replace h := h.t rfl
  refine H_draw (by kernel_rfl) ?_
  refine H_askK (.agg [.pd (.sl (p0.map elS)), .pd (.sl (p1.map elQ1)), .pd (.sl (p2.map elQ0))]) ([o1, o2]) (by kernel_rfl) ?_
  refine H_askK (.agg [.pd (.sl (p3.map elQ3))]) ([o1, o2]) (by kernel_rfl) ?_
  obtain ⟨x7, hx8, h⟩ := h
  refine H_valW (g := 19) (args := [.agg [.pd (.sl (p0.map elS)), .pd (.sl (p1.map elQ1)), .pd (.sl (p2.map elQ0))], .agg [.pd (.sl (p3.map elQ3))]]) (M := [o1, o2]) (.pd (.sl (x7.map elI64))) (.inr (by kernel_rfl)) (by kernel_rfl) (notes_Home_ok m _ _ _ _ hx8) (by kernel_rfl) (hasT 19 (by kernel_rfl)) ?_
  refine H_askK (.agg [.pd (.sl (p0.map elS)), .pd (.sl (p1.map elQ1)), .pd (.sl (p2.map elQ0))]) ([o1, o2]) (by kernel_rfl) ?_
  refine H_askK (.agg [.pd (.sl (p3.map elQ3))]) ([o1, o2]) (by kernel_rfl) ?_
  obtain ⟨x9, hx10, h⟩ := h
  refine H_valW (g := 20) (args := [.agg [.pd (.sl (p0.map elS)), .pd (.sl (p1.map elQ1)), .pd (.sl (p2.map elQ0))], .agg [.pd (.sl (p3.map elQ3))]]) (M := [o1, o2]) (.pd (.sl (x9.map elI64))) (.inr (by kernel_rfl)) (by kernel_rfl) (notes_Rows_ok m _ _ _ _ hx10) (by kernel_rfl) (hasT 20 (by kernel_rfl)) ?_
  refine H_ask _ _ (by kernel_rfl) (ask_len (P := Tryz.prog) (M := [o1, o2]) (t := 42) (et := 3) (el := elI64) (by kernel_rfl) (e := x7)) ?_
  refine H_askK (.ptr 0 0 0) ([o1, o2]) (by kernel_rfl) ?_
  refine H_askK (.pd (.sl (p0.map elS))) ([o1, o2]) (by kernel_rfl) ?_
  refine H_ask _ _ (by kernel_rfl) (ask_len (P := Tryz.prog) (M := [o1, o2]) (t := 22) (et := 9) (el := elS) (by kernel_rfl) (e := p0)) ?_
  refine H_split ((x7.length : Int) != (p0.length : Int)) (by kernel_rfl) (fun hp11 => ?_) (fun hp11 => ?_)
  · replace h := h.t hp11
    exact H_end .ret (.pd (.bool false)) (by kernel_rfl) rfl (by kernel_rfl) (by subst h; rfl)
  replace h := h.f hp11
  refine H_ask _ _ (by kernel_rfl) (ask_len (P := Tryz.prog) (M := [o1, o2]) (t := 42) (et := 3) (el := elI64) (by kernel_rfl) (e := x9)) ?_
  refine H_askK (.ptr 0 2 0) ([o1, o2]) (by kernel_rfl) ?_
  refine H_askK (.pd (.sl (p2.map elQ0))) ([o1, o2]) (by kernel_rfl) ?_
  refine H_ask _ _ (by kernel_rfl) (ask_len (P := Tryz.prog) (M := [o1, o2]) (t := 24) (et := 53) (el := elQ0) (by kernel_rfl) (e := p2)) ?_
  refine H_split ((x9.length : Int) != (p2.length : Int)) (by kernel_rfl) (fun hp12 => ?_) (fun hp12 => ?_)
  · replace h := h.t hp12
    exact H_end .ret (.pd (.bool false)) (by kernel_rfl) rfl (by kernel_rfl) (by subst h; rfl)
  replace h := h.f hp12
  refine H_ask _ _ (by kernel_rfl) (ask_len (P := Tryz.prog) (M := [o1, o2]) (t := 42) (et := 3) (el := elI64) (by kernel_rfl) (e := x7)) ?_
  refine H_loopP (F := offcutlaw09_NotesHomes_L1 p2 p3 x7 x9 r) (s0 := (0 : Int)) h () 137 2
    (fun (s100 : Int) (() : Unit) => [(2, .ptr 0 0 0), (3, .ptr 1 0 0), (5, .pd (.sl (x7.map elI64))), (6, .pd (.sl (x9.map elI64))), (57, .pd (.int .i64 (x7.length : Int))), (58, .pd (.int .i64 s100))])
    (fun (s100 : Int) (() : Unit) => [.cells [.pd (.sl (p0.map elS)), .pd (.sl (p1.map elQ1)), .pd (.sl (p2.map elQ0))] 1 0 false, .cells [.pd (.sl (p3.map elQ3))] 1 0 false]) (fun (s100 : Int) (() : Unit) => True) trivial [] mixedT (askZ [9, 10, 11] false [29] [26])
    (by kernel_rfl) (by kernel_rfl) (by kernel_rfl) (by kernel_rfl) (by kernel_rfl) (fun _ _ => rfl) ?_
  rintro X1 s100 ⟨⟩ - h
  dsimp only [offcutlaw09_NotesHomes_L1] at h
  refine H_split (decide (s100 < (x7.length : Int))) (by kernel_rfl) (fun hp13 => ?_) (fun hp13 => ?_)
  · replace h := h.t hp13
    refine H_askK (.ptr 1 0 0) ([o1, o2]) (by kernel_rfl) ?_
    refine H_askK (.pd (.sl (p3.map elQ3))) ([o1, o2]) (by kernel_rfl) ?_
    refine H_ask _ _ (by kernel_rfl) (ask_len (P := Tryz.prog) (M := [o1, o2]) (t := 29) (et := 42) (el := elQ3) (by kernel_rfl) (e := p3)) ?_
    refine H_loopP (F := offcutlaw09_NotesHomes_L2 p3 x7 s100 X1 r) (s0 := ((-1 : Int), (0 : Int))) h () 137 2
      (fun ((s200, s201) : Int × Int) (() : Unit) => [(2, .ptr 0 0 0), (3, .ptr 1 0 0), (5, .pd (.sl (x7.map elI64))), (6, .pd (.sl (x9.map elI64))), (7, .pd (.int .i64 s100)), (8, .pd (.int .i64 s200)), (57, .pd (.int .i64 (x7.length : Int))), (58, .pd (.int .i64 s100)), (62, .pd (.sl (p3.map elQ3))), (63, .pd (.int .i64 (p3.length : Int))), (64, .pd (.int .i64 s201))])
      (fun ((s200, s201) : Int × Int) (() : Unit) => [.cells [.pd (.sl (p0.map elS)), .pd (.sl (p1.map elQ1)), .pd (.sl (p2.map elQ0))] 1 0 false, .cells [.pd (.sl (p3.map elQ3))] 1 0 false]) (fun ((s200, s201) : Int × Int) (() : Unit) => True) trivial [] mixedT (askZ [9, 10, 11] false [29] [26])
      (by kernel_rfl) (by kernel_rfl) (by kernel_rfl) (by kernel_rfl) (by kernel_rfl) (fun _ _ => rfl) ?_
    rintro X2 ⟨s200, s201⟩ ⟨⟩ - h
    dsimp only [offcutlaw09_NotesHomes_L2] at h
    refine H_split (decide (s201 < (p3.length : Int))) (by kernel_rfl) (fun hp14 => ?_) (fun hp14 => ?_)
    · replace h := h.t hp14
      obtain ⟨x15, hx16, h⟩ := h
      refine H_ask _ _ (by kernel_rfl) (ask_idx (P := Tryz.prog) (M := [o1, o2]) (t := 29) (et := 42) (k := .i64) (lv := lvQ3) okQ3 leQ3 (by kernel_rfl) (by kernel_rfl) hx16) ?_
      refine H_askK (.pd (.sl (x15.map elI64))) ([o1, o2]) (by kernel_rfl) ?_
      refine H_ask _ _ (by kernel_rfl) (ask_len (P := Tryz.prog) (M := [o1, o2]) (t := 42) (et := 3) (el := elI64) (by kernel_rfl) (e := x15)) ?_
      refine H_loopP (F := offcutlaw09_NotesHomes_L3 s100 s201 X2 x15) (s0 := (s200, (0 : Int))) h () 137 2
        (fun ((s300, s301) : Int × Int) (() : Unit) => [(2, .ptr 0 0 0), (3, .ptr 1 0 0), (5, .pd (.sl (x7.map elI64))), (6, .pd (.sl (x9.map elI64))), (7, .pd (.int .i64 s100)), (8, .pd (.int .i64 s300)), (9, .pd (.int .i64 s201)), (57, .pd (.int .i64 (x7.length : Int))), (58, .pd (.int .i64 s100)), (62, .pd (.sl (p3.map elQ3))), (63, .pd (.int .i64 (p3.length : Int))), (64, .pd (.int .i64 s201)), (69, .pd (.sl (x15.map elI64))), (70, .pd (.int .i64 (x15.length : Int))), (71, .pd (.int .i64 s301))])
        (fun ((s300, s301) : Int × Int) (() : Unit) => [.cells [.pd (.sl (p0.map elS)), .pd (.sl (p1.map elQ1)), .pd (.sl (p2.map elQ0))] 1 0 false, .cells [.pd (.sl (p3.map elQ3))] 1 0 false]) (fun ((s300, s301) : Int × Int) (() : Unit) => True) trivial [] mixedT (askZ [9, 10, 11] false [29] [26])
        (by kernel_rfl) (by kernel_rfl) (by kernel_rfl) (by kernel_rfl) (by kernel_rfl) (fun _ _ => rfl) ?_
      rintro X3 ⟨s300, s301⟩ ⟨⟩ - h
      dsimp only [offcutlaw09_NotesHomes_L3] at h
      refine H_split (decide (s301 < (x15.length : Int))) (by kernel_rfl) (fun hp17 => ?_) (fun hp17 => ?_)
      · replace h := h.t hp17
        obtain ⟨x18, hx19, h⟩ := h
        refine H_ask _ _ (by kernel_rfl) (ask_idx (P := Tryz.prog) (M := [o1, o2]) (t := 42) (et := 3) (k := .i64) (lv := lvI64) okI64 leI64 (by kernel_rfl) (by kernel_rfl) hx19) ?_
        refine H_askK (.pd (.int .i64 x18)) ([o1, o2]) (by kernel_rfl) ?_
        refine H_split (x18 == s100) (by kernel_rfl) (fun hp20 => ?_) (fun hp20 => ?_)
        · replace h := h.t hp20
          exact H_againP (st := _) (s201, (IntKind.i64.wrap (s301 + 1))) () h trivial (by kernel_rfl) (by kernel_rfl) (by kernel_rfl) (by kernel_rfl) (by kernel_rfl)
        replace h := h.f hp20
        exact H_againP (st := _) (s300, (IntKind.i64.wrap (s301 + 1))) () h trivial (by kernel_rfl) (by kernel_rfl) (by kernel_rfl) (by kernel_rfl) (by kernel_rfl)
      replace h := h.f hp17
      refine H_leaveP (.exit 4) (by kernel_rfl) rfl ?_
      exact H_againP (st := _) (s300, (IntKind.i64.wrap (s201 + 1))) () h trivial (by kernel_rfl) (by kernel_rfl) (by kernel_rfl) (by kernel_rfl) (by kernel_rfl)
    replace h := h.f hp14
    refine H_leaveP (.exit 2) (by kernel_rfl) rfl ?_
    obtain ⟨x21, hx22, h⟩ := h
    refine H_ask _ _ (by kernel_rfl) (ask_idx (P := Tryz.prog) (M := [o1, o2]) (t := 42) (et := 3) (k := .i64) (lv := lvI64) okI64 leI64 (by kernel_rfl) (by kernel_rfl) hx22) ?_
    refine H_askK (.pd (.int .i64 x21)) ([o1, o2]) (by kernel_rfl) ?_
    refine H_split (x21 != s200) (by kernel_rfl) (fun hp23 => ?_) (fun hp23 => ?_)
    · replace h := h.t hp23
      refine H_leaveP .ret (by kernel_rfl) rfl ?_
      exact H_end .ret (.pd (.bool false)) (by kernel_rfl) rfl (by kernel_rfl) (by subst h; rfl)
    replace h := h.f hp23
    exact H_againP (st := _) (IntKind.i64.wrap (s100 + 1)) () h trivial (by kernel_rfl) (by kernel_rfl) (by kernel_rfl) (by kernel_rfl) (by kernel_rfl)
  replace h := h.f hp13
  refine H_leaveP (.exit 0) (by kernel_rfl) rfl ?_
  refine H_askK (.ptr 0 2 0) ([o1, o2]) (by kernel_rfl) ?_
  refine H_askK (.pd (.sl (p2.map elQ0))) ([o1, o2]) (by kernel_rfl) ?_
  refine H_ask _ _ (by kernel_rfl) (ask_len (P := Tryz.prog) (M := [o1, o2]) (t := 24) (et := 53) (el := elQ0) (by kernel_rfl) (e := p2)) ?_
  refine H_loopP (F := offcutlaw09_NotesHomes_L4 p2 p3 x7 x9 r) (s0 := (0 : Int)) h () 137 2
    (fun (s400 : Int) (() : Unit) => [(3, .ptr 1 0 0), (5, .pd (.sl (x7.map elI64))), (6, .pd (.sl (x9.map elI64))), (89, .pd (.sl (p2.map elQ0))), (90, .pd (.int .i64 (p2.length : Int))), (91, .pd (.int .i64 s400))])
    (fun (s400 : Int) (() : Unit) => [.cells [.pd (.sl (p0.map elS)), .pd (.sl (p1.map elQ1)), .pd (.sl (p2.map elQ0))] 1 0 false, .cells [.pd (.sl (p3.map elQ3))] 1 0 false]) (fun (s400 : Int) (() : Unit) => True) trivial [] mixedT (askZ [9, 10, 11] false [29] [26])
    (by kernel_rfl) (by kernel_rfl) (by kernel_rfl) (by kernel_rfl) (by kernel_rfl) (fun _ _ => rfl) ?_
  rintro X4 s400 ⟨⟩ - h
  dsimp only [offcutlaw09_NotesHomes_L4] at h
  refine H_split (decide (s400 < (p2.length : Int))) (by kernel_rfl) (fun hp24 => ?_) (fun hp24 => ?_)
  · replace h := h.t hp24
    obtain ⟨x25, x26, x27, x28, x29, x30, hx31, h⟩ := h
    refine H_ask _ _ (by kernel_rfl) (ask_idx (P := Tryz.prog) (M := [o1, o2]) (t := 24) (et := 53) (k := .i64) (lv := lvQ0) okQ0 leQ0 (by kernel_rfl) (by kernel_rfl) hx31) ?_
    refine H_askK (.agg [.pd (.str x25), .pd (.sl (x26.map elQ1)), .pd (.int .i64 x27), .pd (.bool x28), .pd (.sl (x29.map elU32)), .pd (.sl (x30.map elU32))]) ([o1, o2]) (by kernel_rfl) ?_
    let o3 : Ob := .cells [.pd (.str x25), .pd (.sl (x26.map elQ1)), .pd (.int .i64 x27), .pd (.bool x28), .pd (.sl (x29.map elU32)), .pd (.sl (x30.map elU32))] 1 0 false
    refine H_askK (.junk) ([o1, o2, o3]) (by kernel_rfl) ?_
    refine H_askK (.ptr 1 0 0) ([o1, o2, o3]) (by kernel_rfl) ?_
    refine H_askK (.pd (.sl (p3.map elQ3))) ([o1, o2, o3]) (by kernel_rfl) ?_
    refine H_ask _ _ (by kernel_rfl) (ask_len (P := Tryz.prog) (M := [o1, o2, o3]) (t := 29) (et := 42) (el := elQ3) (by kernel_rfl) (e := p3)) ?_
    refine H_loopP (F := offcutlaw09_NotesHomes_L5 p3 x7 x9 s400 X4 x26 r) (s0 := ((-1 : Int), (0 : Int))) h () 137 3
      (fun ((s500, s501) : Int × Int) (() : Unit) => [(3, .ptr 1 0 0), (5, .pd (.sl (x7.map elI64))), (6, .pd (.sl (x9.map elI64))), (13, .pd (.int .i64 s400)), (14, .ptr 2 0 0), (15, .pd (.int .i64 s500)), (89, .pd (.sl (p2.map elQ0))), (90, .pd (.int .i64 (p2.length : Int))), (91, .pd (.int .i64 s400)), (98, .pd (.int .i64 (p3.length : Int))), (99, .pd (.int .i64 s501))])
      (fun ((s500, s501) : Int × Int) (() : Unit) => [.cells [.pd (.sl (p0.map elS)), .pd (.sl (p1.map elQ1)), .pd (.sl (p2.map elQ0))] 1 0 false, .cells [.pd (.sl (p3.map elQ3))] 1 0 false, .cells [.pd (.str x25), .pd (.sl (x26.map elQ1)), .pd (.int .i64 x27), .pd (.bool x28), .pd (.sl (x29.map elU32)), .pd (.sl (x30.map elU32))] 1 0 false]) (fun ((s500, s501) : Int × Int) (() : Unit) => True) trivial [] mixedT (askZ [9, 10, 11] false [29] [26])
      (by kernel_rfl) (by kernel_rfl) (by kernel_rfl) (by kernel_rfl) (by kernel_rfl) (fun _ _ => rfl) ?_
    rintro X5 ⟨s500, s501⟩ ⟨⟩ - h
    dsimp only [offcutlaw09_NotesHomes_L5] at h
    refine H_split (decide (s501 < (p3.length : Int))) (by kernel_rfl) (fun hp32 => ?_) (fun hp32 => ?_)
    · replace h := h.t hp32
      refine H_askK (.ptr 2 1 0) ([o1, o2, o3]) (by kernel_rfl) ?_
      refine H_askK (.pd (.sl (x26.map elQ1))) ([o1, o2, o3]) (by kernel_rfl) ?_
      refine H_ask _ _ (by kernel_rfl) (ask_len (P := Tryz.prog) (M := [o1, o2, o3]) (t := 23) (et := 51) (el := elQ1) (by kernel_rfl) (e := x26)) ?_
      refine H_loopP (F := offcutlaw09_NotesHomes_L6 x7 x26 s500 s501 X5) (s0 := (false, true, (0 : Int))) h () 137 3
        (fun ((s600, s601, s602) : Bool × Bool × Int) (() : Unit) => [(3, .ptr 1 0 0), (5, .pd (.sl (x7.map elI64))), (6, .pd (.sl (x9.map elI64))), (13, .pd (.int .i64 s400)), (14, .ptr 2 0 0), (15, .pd (.int .i64 s500)), (16, .pd (.int .i64 s501)), (17, .pd (.bool s600)), (18, .pd (.bool s601)), (89, .pd (.sl (p2.map elQ0))), (90, .pd (.int .i64 (p2.length : Int))), (91, .pd (.int .i64 s400)), (98, .pd (.int .i64 (p3.length : Int))), (99, .pd (.int .i64 s501)), (103, .pd (.sl (x26.map elQ1))), (104, .pd (.int .i64 (x26.length : Int))), (105, .pd (.int .i64 s602))])
        (fun ((s600, s601, s602) : Bool × Bool × Int) (() : Unit) => [.cells [.pd (.sl (p0.map elS)), .pd (.sl (p1.map elQ1)), .pd (.sl (p2.map elQ0))] 1 0 false, .cells [.pd (.sl (p3.map elQ3))] 1 0 false, .cells [.pd (.str x25), .pd (.sl (x26.map elQ1)), .pd (.int .i64 x27), .pd (.bool x28), .pd (.sl (x29.map elU32)), .pd (.sl (x30.map elU32))] 1 0 false]) (fun ((s600, s601, s602) : Bool × Bool × Int) (() : Unit) => True) trivial [] mixedT (askZ [9, 10, 11] false [29] [26])
        (by kernel_rfl) (by kernel_rfl) (by kernel_rfl) (by kernel_rfl) (by kernel_rfl) (fun _ _ => rfl) ?_
      rintro X6 ⟨s600, s601, s602⟩ ⟨⟩ - h
      dsimp only [offcutlaw09_NotesHomes_L6] at h
      cases s600
      · replace h := h.f rfl
        cases s601
        · replace h := h.f rfl
          refine H_split (decide (s602 < (x26.length : Int))) (by kernel_rfl) (fun hp63 => ?_) (fun hp63 => ?_)
          · replace h := h.t hp63
            obtain ⟨x64, x65, x66, hx67, h⟩ := h
            refine H_ask _ _ (by kernel_rfl) (ask_idx (P := Tryz.prog) (M := [o1, o2, o3]) (t := 23) (et := 51) (k := .i64) (lv := lvQ1) okQ1 leQ1 (by kernel_rfl) (by kernel_rfl) hx67) ?_
            refine H_askK (.agg [.pd (.bool x64), .pd (.sl (x65.map elU32)), .pd (.sl (x66.map elU32))]) ([o1, o2, o3]) (by kernel_rfl) ?_
            let o4 : Ob := .cells [.pd (.bool x64), .pd (.sl (x65.map elU32)), .pd (.sl (x66.map elU32))] 1 0 false
            refine H_askK (.junk) ([o1, o2, o3, o4]) (by kernel_rfl) ?_
            refine H_askK (.agg [.pd (.bool x64), .pd (.sl (x65.map elU32)), .pd (.sl (x66.map elU32))]) ([o1, o2, o3, o4]) (by kernel_rfl) ?_
            obtain ⟨x68, hx69, h⟩ := h
            refine H_valW (g := 21) (args := [.agg [.pd (.bool x64), .pd (.sl (x65.map elU32)), .pd (.sl (x66.map elU32))]]) (M := [o1, o2, o3, o4]) (.pd (.int .i64 x68)) (.inl (by kernel_rfl)) (by kernel_rfl) (rat_Sign_ok m _ _ _ hx69) (by kernel_rfl) (hasT 21 (by kernel_rfl)) ?_
            refine H_split (x68 != (0 : Int)) (by kernel_rfl) (fun hp70 => ?_) (fun hp70 => ?_)
            · replace h := h.t hp70
              exact H_againC (st := _) (true, false, (IntKind.i64.wrap (s602 + 1))) () h trivial (by kernel_rfl) (by kernel_rfl) (by kernel_rfl) (by kernel_rfl) (by kernel_rfl) (by kernel_rfl) (all_c (by kernel_rfl) (all_c (by kernel_rfl) (all_c (by kernel_rfl) all_n))) (by kernel_rfl) (by kernel_rfl)
            replace h := h.f hp70
            exact H_againC (st := _) (false, false, (IntKind.i64.wrap (s602 + 1))) () h trivial (by kernel_rfl) (by kernel_rfl) (by kernel_rfl) (by kernel_rfl) (by kernel_rfl) (by kernel_rfl) (all_c (by kernel_rfl) (all_c (by kernel_rfl) (all_c (by kernel_rfl) all_n))) (by kernel_rfl) (by kernel_rfl)
          replace h := h.f hp63
          refine H_leaveP (.exit 10) (by kernel_rfl) rfl ?_
          exact H_againP (st := _) (s500, (IntKind.i64.wrap (s501 + 1))) () h trivial (by kernel_rfl) (by kernel_rfl) (by kernel_rfl) (by kernel_rfl) (by kernel_rfl)
        replace h := h.t rfl
        refine H_split (decide (s602 < (x26.length : Int))) (by kernel_rfl) (fun hp52 => ?_) (fun hp52 => ?_)
        · replace h := h.t hp52
          obtain ⟨x53, x54, x55, hx56, h⟩ := h
          refine H_ask _ _ (by kernel_rfl) (ask_idx (P := Tryz.prog) (M := [o1, o2, o3]) (t := 23) (et := 51) (k := .i64) (lv := lvQ1) okQ1 leQ1 (by kernel_rfl) (by kernel_rfl) hx56) ?_
          refine H_askK (.agg [.pd (.bool x53), .pd (.sl (x54.map elU32)), .pd (.sl (x55.map elU32))]) ([o1, o2, o3]) (by kernel_rfl) ?_
          let o5 : Ob := .cells [.pd (.bool x53), .pd (.sl (x54.map elU32)), .pd (.sl (x55.map elU32))] 1 0 false
          refine H_askK (.junk) ([o1, o2, o3, o5]) (by kernel_rfl) ?_
          refine H_askK (.agg [.pd (.bool x53), .pd (.sl (x54.map elU32)), .pd (.sl (x55.map elU32))]) ([o1, o2, o3, o5]) (by kernel_rfl) ?_
          obtain ⟨x57, hx58, h⟩ := h
          refine H_valW (g := 21) (args := [.agg [.pd (.bool x53), .pd (.sl (x54.map elU32)), .pd (.sl (x55.map elU32))]]) (M := [o1, o2, o3, o5]) (.pd (.int .i64 x57)) (.inl (by kernel_rfl)) (by kernel_rfl) (rat_Sign_ok m _ _ _ hx58) (by kernel_rfl) (hasT 21 (by kernel_rfl)) ?_
          refine H_split (x57 != (0 : Int)) (by kernel_rfl) (fun hp59 => ?_) (fun hp59 => ?_)
          · replace h := h.t hp59
            obtain ⟨x60, hx61, h⟩ := h
            refine H_ask _ _ (by kernel_rfl) (ask_idx (P := Tryz.prog) (M := [o1, o2, o3, o5]) (t := 42) (et := 3) (k := .i64) (lv := lvI64) okI64 leI64 (by kernel_rfl) (by kernel_rfl) hx61) ?_
            refine H_askK (.pd (.int .i64 x60)) ([o1, o2, o3, o5]) (by kernel_rfl) ?_
            refine H_split (x60 == s501) (by kernel_rfl) (fun hp62 => ?_) (fun hp62 => ?_)
            · replace h := h.t hp62
              exact H_againC (st := _) (true, true, (IntKind.i64.wrap (s602 + 1))) () h trivial (by kernel_rfl) (by kernel_rfl) (by kernel_rfl) (by kernel_rfl) (by kernel_rfl) (by kernel_rfl) (all_c (by kernel_rfl) (all_c (by kernel_rfl) (all_c (by kernel_rfl) all_n))) (by kernel_rfl) (by kernel_rfl)
            replace h := h.f hp62
            exact H_againC (st := _) (true, false, (IntKind.i64.wrap (s602 + 1))) () h trivial (by kernel_rfl) (by kernel_rfl) (by kernel_rfl) (by kernel_rfl) (by kernel_rfl) (by kernel_rfl) (all_c (by kernel_rfl) (all_c (by kernel_rfl) (all_c (by kernel_rfl) all_n))) (by kernel_rfl) (by kernel_rfl)
          replace h := h.f hp59
          exact H_againC (st := _) (false, true, (IntKind.i64.wrap (s602 + 1))) () h trivial (by kernel_rfl) (by kernel_rfl) (by kernel_rfl) (by kernel_rfl) (by kernel_rfl) (by kernel_rfl) (all_c (by kernel_rfl) (all_c (by kernel_rfl) (all_c (by kernel_rfl) all_n))) (by kernel_rfl) (by kernel_rfl)
        replace h := h.f hp52
        refine H_leaveP (.exit 10) (by kernel_rfl) rfl ?_
        exact H_againP (st := _) (s500, (IntKind.i64.wrap (s501 + 1))) () h trivial (by kernel_rfl) (by kernel_rfl) (by kernel_rfl) (by kernel_rfl) (by kernel_rfl)
      replace h := h.t rfl
      cases s601
      · replace h := h.f rfl
        refine H_split (decide (s602 < (x26.length : Int))) (by kernel_rfl) (fun hp44 => ?_) (fun hp44 => ?_)
        · replace h := h.t hp44
          obtain ⟨x45, x46, x47, hx48, h⟩ := h
          refine H_ask _ _ (by kernel_rfl) (ask_idx (P := Tryz.prog) (M := [o1, o2, o3]) (t := 23) (et := 51) (k := .i64) (lv := lvQ1) okQ1 leQ1 (by kernel_rfl) (by kernel_rfl) hx48) ?_
          refine H_askK (.agg [.pd (.bool x45), .pd (.sl (x46.map elU32)), .pd (.sl (x47.map elU32))]) ([o1, o2, o3]) (by kernel_rfl) ?_
          let o6 : Ob := .cells [.pd (.bool x45), .pd (.sl (x46.map elU32)), .pd (.sl (x47.map elU32))] 1 0 false
          refine H_askK (.junk) ([o1, o2, o3, o6]) (by kernel_rfl) ?_
          refine H_askK (.agg [.pd (.bool x45), .pd (.sl (x46.map elU32)), .pd (.sl (x47.map elU32))]) ([o1, o2, o3, o6]) (by kernel_rfl) ?_
          obtain ⟨x49, hx50, h⟩ := h
          refine H_valW (g := 21) (args := [.agg [.pd (.bool x45), .pd (.sl (x46.map elU32)), .pd (.sl (x47.map elU32))]]) (M := [o1, o2, o3, o6]) (.pd (.int .i64 x49)) (.inl (by kernel_rfl)) (by kernel_rfl) (rat_Sign_ok m _ _ _ hx50) (by kernel_rfl) (hasT 21 (by kernel_rfl)) ?_
          refine H_split (x49 != (0 : Int)) (by kernel_rfl) (fun hp51 => ?_) (fun hp51 => ?_)
          · replace h := h.t hp51
            exact H_againC (st := _) (true, false, (IntKind.i64.wrap (s602 + 1))) () h trivial (by kernel_rfl) (by kernel_rfl) (by kernel_rfl) (by kernel_rfl) (by kernel_rfl) (by kernel_rfl) (all_c (by kernel_rfl) (all_c (by kernel_rfl) (all_c (by kernel_rfl) all_n))) (by kernel_rfl) (by kernel_rfl)
          replace h := h.f hp51
          exact H_againC (st := _) (true, false, (IntKind.i64.wrap (s602 + 1))) () h trivial (by kernel_rfl) (by kernel_rfl) (by kernel_rfl) (by kernel_rfl) (by kernel_rfl) (by kernel_rfl) (all_c (by kernel_rfl) (all_c (by kernel_rfl) (all_c (by kernel_rfl) all_n))) (by kernel_rfl) (by kernel_rfl)
        replace h := h.f hp44
        refine H_leaveP (.exit 10) (by kernel_rfl) rfl ?_
        exact H_againP (st := _) (s500, (IntKind.i64.wrap (s501 + 1))) () h trivial (by kernel_rfl) (by kernel_rfl) (by kernel_rfl) (by kernel_rfl) (by kernel_rfl)
      replace h := h.t rfl
      refine H_split (decide (s602 < (x26.length : Int))) (by kernel_rfl) (fun hp33 => ?_) (fun hp33 => ?_)
      · replace h := h.t hp33
        obtain ⟨x34, x35, x36, hx37, h⟩ := h
        refine H_ask _ _ (by kernel_rfl) (ask_idx (P := Tryz.prog) (M := [o1, o2, o3]) (t := 23) (et := 51) (k := .i64) (lv := lvQ1) okQ1 leQ1 (by kernel_rfl) (by kernel_rfl) hx37) ?_
        refine H_askK (.agg [.pd (.bool x34), .pd (.sl (x35.map elU32)), .pd (.sl (x36.map elU32))]) ([o1, o2, o3]) (by kernel_rfl) ?_
        let o7 : Ob := .cells [.pd (.bool x34), .pd (.sl (x35.map elU32)), .pd (.sl (x36.map elU32))] 1 0 false
        refine H_askK (.junk) ([o1, o2, o3, o7]) (by kernel_rfl) ?_
        refine H_askK (.agg [.pd (.bool x34), .pd (.sl (x35.map elU32)), .pd (.sl (x36.map elU32))]) ([o1, o2, o3, o7]) (by kernel_rfl) ?_
        obtain ⟨x38, hx39, h⟩ := h
        refine H_valW (g := 21) (args := [.agg [.pd (.bool x34), .pd (.sl (x35.map elU32)), .pd (.sl (x36.map elU32))]]) (M := [o1, o2, o3, o7]) (.pd (.int .i64 x38)) (.inl (by kernel_rfl)) (by kernel_rfl) (rat_Sign_ok m _ _ _ hx39) (by kernel_rfl) (hasT 21 (by kernel_rfl)) ?_
        refine H_split (x38 != (0 : Int)) (by kernel_rfl) (fun hp40 => ?_) (fun hp40 => ?_)
        · replace h := h.t hp40
          obtain ⟨x41, hx42, h⟩ := h
          refine H_ask _ _ (by kernel_rfl) (ask_idx (P := Tryz.prog) (M := [o1, o2, o3, o7]) (t := 42) (et := 3) (k := .i64) (lv := lvI64) okI64 leI64 (by kernel_rfl) (by kernel_rfl) hx42) ?_
          refine H_askK (.pd (.int .i64 x41)) ([o1, o2, o3, o7]) (by kernel_rfl) ?_
          refine H_split (x41 == s501) (by kernel_rfl) (fun hp43 => ?_) (fun hp43 => ?_)
          · replace h := h.t hp43
            exact H_againC (st := _) (true, true, (IntKind.i64.wrap (s602 + 1))) () h trivial (by kernel_rfl) (by kernel_rfl) (by kernel_rfl) (by kernel_rfl) (by kernel_rfl) (by kernel_rfl) (all_c (by kernel_rfl) (all_c (by kernel_rfl) (all_c (by kernel_rfl) all_n))) (by kernel_rfl) (by kernel_rfl)
          replace h := h.f hp43
          exact H_againC (st := _) (true, false, (IntKind.i64.wrap (s602 + 1))) () h trivial (by kernel_rfl) (by kernel_rfl) (by kernel_rfl) (by kernel_rfl) (by kernel_rfl) (by kernel_rfl) (all_c (by kernel_rfl) (all_c (by kernel_rfl) (all_c (by kernel_rfl) all_n))) (by kernel_rfl) (by kernel_rfl)
        replace h := h.f hp40
        exact H_againC (st := _) (true, true, (IntKind.i64.wrap (s602 + 1))) () h trivial (by kernel_rfl) (by kernel_rfl) (by kernel_rfl) (by kernel_rfl) (by kernel_rfl) (by kernel_rfl) (all_c (by kernel_rfl) (all_c (by kernel_rfl) (all_c (by kernel_rfl) all_n))) (by kernel_rfl) (by kernel_rfl)
      replace h := h.f hp33
      refine H_leaveP (.exit 10) (by kernel_rfl) rfl ?_
      exact H_againP (st := _) (s501, (IntKind.i64.wrap (s501 + 1))) () h trivial (by kernel_rfl) (by kernel_rfl) (by kernel_rfl) (by kernel_rfl) (by kernel_rfl)
    replace h := h.f hp32
    refine H_leaveP (.exit 8) (by kernel_rfl) rfl ?_
    obtain ⟨x71, hx72, h⟩ := h
    refine H_ask _ _ (by kernel_rfl) (ask_idx (P := Tryz.prog) (M := [o1, o2, o3]) (t := 42) (et := 3) (k := .i64) (lv := lvI64) okI64 leI64 (by kernel_rfl) (by kernel_rfl) hx72) ?_
    refine H_askK (.pd (.int .i64 x71)) ([o1, o2, o3]) (by kernel_rfl) ?_
    refine H_split (x71 != s500) (by kernel_rfl) (fun hp73 => ?_) (fun hp73 => ?_)
    · replace h := h.t hp73
      refine H_leaveP .ret (by kernel_rfl) rfl ?_
      exact H_end .ret (.pd (.bool false)) (by kernel_rfl) rfl (by kernel_rfl) (by subst h; rfl)
    replace h := h.f hp73
    exact H_againC (st := _) (IntKind.i64.wrap (s400 + 1)) () h trivial (by kernel_rfl) (by kernel_rfl) (by kernel_rfl) (by kernel_rfl) (by kernel_rfl) (by kernel_rfl) (all_c (by kernel_rfl) (all_c (by kernel_rfl) all_n)) (by kernel_rfl) (by kernel_rfl)
  replace h := h.f hp24
  refine H_leaveP (.exit 6) (by kernel_rfl) rfl ?_
  obtain ⟨x74, hx75, h⟩ := h
  refine H_valW (g := 9) (args := []) (M := [o1, o2]) (.pd (.bool x74)) (.inl (by kernel_rfl)) (by kernel_rfl) (offcutlaw09_awake_ok m  hx75) (by kernel_rfl) (hasT 9 (by kernel_rfl)) ?_
  cases x74
  · replace h := h.f rfl
    exact H_end .ret (.pd (.bool false)) (by kernel_rfl) rfl (by kernel_rfl) (by subst h; rfl)
  replace h := h.t rfl
  exact H_end .ret (.pd (.bool true)) (by kernel_rfl) rfl (by kernel_rfl) (by subst h; rfl)
end Go.Abs
end
