/- Part of a proof, in few files: L9g L8l L8o L8p L9h M09a G09pW L9i. -/
import Derived.Test.YtojdnnogpffhpaaGreatDoorNPaK24
import Derived.Test.YtojdnnogpffhpaaGreatDoorNPaK23
import Derived.Test.YtojdnnogpffhpaaGreatDoorNPaK19
import Derived.Test.YtojdnnogpffhpaaGreatDoorNPaK20
import Derived.Test.YtojdnnogpffhpaaGreatDoorNPaK14
import Derived.Test.YtojdnnogpffhpaaGreatDoorNPaK15

section
namespace Go.Abs
open Go
open Classical
set_option linter.unusedVariables false
set_option linter.unusedSimpArgs false
set_option linter.unnecessarySimpa false
structure JP (V : Ws) (had : List Int) (out : Bks) : Prop where
  nd : had.Nodup
  rng : ∀ k, k ∈ had → 0 ≤ k ∧ k < V.length
  perm : out.flatten.Perm had
  ne : ∀ l, l ∈ out → l ≠ []
theorem JP.zero (V : Ws) : JP V [] [] := ⟨by simp, by simp, by simp, by simp⟩
theorem JP.step {V : Ws} {had : List Int} {out : Bks} (h : JP V had out) {ws : Ws} {ks : List Int} (hp : plS V had ws = some ks) (hw : 1 ≤ ws.length) : JP V (had ++ ks) (out ++ [sortI ks]) := by
  obtain ⟨a1, a2, a3⟩ := plS_ok ws had ks hp h.nd
  refine ⟨a1, fun k hk => ?_, ?_, fun l hl => ?_⟩
  · rcases List.mem_append.1 hk with hk | hk
    · exact h.rng k hk
    · exact a2 k hk
  · rw [List.flatten_append, List.flatten_cons, List.flatten_nil, List.append_nil]
    exact List.Perm.append h.perm (sortI_perm ks)
  · rcases List.mem_append.1 hl with hl | hl
    · exact h.ne l hl
    · simp at hl; subst hl
      intro e
      have := (sortI_perm ks).length_eq
      rw [e] at this
      simp at this; omega
theorem flat_len : ∀ (B : Bks), (∀ l, l ∈ B → l ≠ []) → B.length ≤ B.flatten.length
  | [], _ => by simp
  | l :: B, h => by
    have h1 := flat_len B fun m hm => h m (by simp [hm])
    have h2 : 1 ≤ l.length := List.length_pos_iff.2 (h l (by simp))
    rw [List.flatten_cons, List.length_append, List.length_cons]; omega
theorem JP.len {V : Ws} {had : List Int} {out : Bks} (h : JP V had out) : had.length ≤ V.length ∧ out.length ≤ V.length := by
  have h1 := nodup_int h.nd h.rng
  have h2 := flat_len out h.ne
  have h3 := h.perm.length_eq
  omega
theorem head_at0 {l : Ws} (h : 0 < l.length) : l.headD [] = l[0] := by cases l with | nil => simp at h | cons a l => rfl
theorem Parse9_loop {V : Ws} (hV : V.length ≤ 12) (L : Ls) (hL : LsOK L) : LoopP (notes_Parse_L1 V L (resN (foldN V [] [] L))) ((0 : Int), [], []) := by
  have hl1 := hL.1
  refine LoopP.natS (σ := List (Int × Int) × Bks) L.length (fun k z => ∃ had, z.1 = entE had ∧ JP V had z.2 ∧ foldN V [] [] L = foldN V had z.2 (L.drop k)) ⟨[], rfl, JP.zero V, by simp⟩ ?_
  rintro X k ⟨e, out⟩ hk ⟨had, e1, hJ, hF⟩ hX
  dsimp only at e1 hJ hF
  subst e1
  unfold notes_Parse_L1
  dsimp only
  obtain ⟨n1, n2⟩ := hJ.len
  refine IfB.dc (fun h => ?_) (fun h => ?_)
  · have hkl : k < L.length := by omega
    obtain ⟨hw, hne⟩ := hL.2 _ (List.getElem_mem hkl)
    rw [List.drop_eq_getElem_cons hkl] at hF
    have h0 : 0 < L[k].2.length := List.length_pos_iff.2 hne
    have hh : L[k].2.headD [] = L[k].2[0] := head_at0 h0
    refine ⟨L[k].1, L[k].2, Idx.nat hkl, _, Idx.nat h0, IfB.nbe (fun hb => ?_) (fun hb => IfB.dc (fun h2 => ?_) (fun h2 => ?_))⟩
    · rw [hF, foldN, if_pos (.inl (by rw [hh]; exact hb))]; rfl
    · rw [hF, foldN, if_pos (.inr (by omega))]; rfl
    · have hn : ¬ (L[k].2.headD [] ≠ bkW ∨ L[k].2.length < 2) := by
        rintro (h | h)
        · rw [hh] at h; exact h hb
        · omega
      rw [foldN, if_neg hn] at hF
      refine ⟨⟨by omega, by omega, by omega⟩, ?_⟩
      have es : sub L[k].2 (1 : Int) (L[k].2.length : Int) = L[k].2.tail := by
        cases hL2 : L[k].2 with
        | nil => exact absurd hL2 hne
        | cons a l => exact sub_tail a l
      have ht : 1 ≤ L[k].2.tail.length := by simp; omega
      have hwl := hw.1
      generalize hws : L[k].2.tail = ws at hF es ht
      have hwsl : ws.length ≤ 100000 := by rw [← hws]; simp; omega
      refine LoopP.natS (σ := List (Int × Int) × List Int) ws.length (fun j z => z.1 = entE (had ++ z.2) ∧ (had ++ z.2).Nodup ∧ (∀ k, k ∈ z.2 → 0 ≤ k ∧ k < V.length) ∧ plS V had ws = (plS V (had ++ z.2) (ws.drop j)).map (z.2 ++ ·)) ⟨by simp, by simpa using hJ.nd, by simp, by simp⟩ ?_
      rintro Y j ⟨e, ks⟩ hj ⟨e1, hnd, hrg, hpl⟩ hY
      dsimp only at e1 hnd hrg hpl
      subst e1
      unfold notes_Parse_L2
      dsimp only
      rw [es]
      have hkl2 : ks.length ≤ V.length := by
        refine nodup_int (List.nodup_append.1 hnd).2.1 hrg
      refine IfB.dc (fun h => ?_) (fun h => ?_)
      · have hjk : j < ws.length := by omega
        rw [List.drop_eq_getElem_cons hjk, plS] at hpl
        refine ⟨_, Idx.nat hjk, _, lines_Index_says V _ (by omega), IfB.dc (fun hneg => ?_) (fun hpos => ?_)⟩
        · rw [if_neg (fun hc => (idxN_neg.1 hneg) hc.1)] at hpl
          rw [hF, hpl]; rfl
        · have hin : ws[j] ∈ V := Decidable.byContradiction fun hn => hpos (idxN_neg.2 hn)
          by_cases hd : idxN V ws[j] ∈ had ++ ks
          · rw [if_neg (fun hc => hc.2 hd)] at hpl
            refine ⟨1, true, true, ⟨entE_in hd, rfl⟩, IfB_true.2 ?_⟩
            rw [hF, hpl]; rfl
          · rw [if_pos ⟨hin, hd⟩] at hpl
            refine ⟨0, false, false, ⟨entE_out hd, rfl⟩, IfB_false.2 ⟨by rw [entE_out hd], by unfold Fits; simp; omega, ?_⟩⟩
            rw [wrap64' (by omega) (by omega)]
            have hi := idxN_at hin
            refine hY _ hjk ⟨by simp [entE], ?_, fun q hq => ?_, ?_⟩
            · dsimp only
              rw [← List.append_assoc, List.nodup_append]
              exact ⟨hnd, by simp, fun a ha b hb => by simp at hb; subst hb; exact fun e => hd (e ▸ ha)⟩
            · dsimp only at hq
              rcases List.mem_append.1 hq with hq | hq
              · exact hrg q hq
              · simp at hq; subst hq; rw [hi.1]; omega
            · dsimp only
              rw [hpl, ← List.append_assoc, Option.map_map]
              congr 1
              funext z
              simp
      · have ej : j = ws.length := by omega
        subst ej
        rw [List.drop_length, plS] at hpl
        simp only [Option.map_some, List.append_nil] at hpl
        rw [hpl] at hF
        obtain ⟨x, hx⟩ := Len_says (n := ks.length) (by omega)
        refine ⟨x, hx, LoopP.once fun Z hZ => ?_⟩
        unfold notes_Parse_L3
        rw [wrap64' (by omega) (by omega)]
        refine IfB.dc (fun _ => ?_) (fun h => by omega)
        refine sort4 (by omega) (by omega) ?_ (by omega)
        exact hX _ hkl ⟨had ++ ks, rfl, hJ.step hpl ht, hF⟩
  · have ek : k = L.length := by omega
    subst ek
    rw [List.drop_length, foldN] at hF
    rw [hF]
    obtain ⟨x, hx⟩ := Len_says (n := out.length) (by omega)
    refine ⟨x, hx, LoopP.once fun Z hZ => ?_⟩
    unfold notes_Parse_L6
    rw [wrap64' (by omega) (by omega)]
    refine IfB.dc (fun _ => ?_) (fun h => by omega)
    refine sort7 (hJ.perm.nodup_iff.2 hJ.nd) hJ.ne (fun k hk => ?_) (by omega)
    have := hJ.rng k (hJ.perm.mem_iff.1 hk)
    omega
theorem Parse9_says {V : Ws} {C : List Fr} {R : List MRow} {s : By} (hm : MayM V C R) (hV : V.length ≤ 12) (hl : s.length ≤ 65536) (hr : RightP s) : notes_Parse V C R s (resN (foldN V [] [] (allL s))) := by
  unfold notes_Parse
  have h1 := model_Right_says V C R
  rw [decide_eq_true hm] at h1
  exact ⟨_, h1, IfB_true.2 ⟨_, _, lines_All_says hl hr, IfB.neI (fun h => absurd rfl h) (fun _ => Parse9_loop hV _ (allLs_ok hl))⟩⟩
theorem Parse9_form {V : Ws} {C : List Fr} {R : List MRow} {s : By} (hm : MayM V C R) (hl : s.length ≤ 65536) (hr : ¬ RightP s) : notes_Parse V C R s ([], 0, 2) := by
  unfold notes_Parse
  have h1 := model_Right_says V C R
  rw [decide_eq_true hm] at h1
  exact ⟨_, h1, IfB_true.2 ⟨_, _, lines_All_form hl hr, IfB.neI (fun _ => rfl) (fun h => by cases h)⟩⟩
theorem Parse9_no {V : Ws} {C : List Fr} {R : List MRow} {s : By} (hm : ¬ MayM V C R) : notes_Parse V C R s ([], 0, 1) := by
  unfold notes_Parse
  have h1 := model_Right_says V C R
  rw [decide_eq_false hm] at h1
  exact ⟨_, h1, IfB_false.2 rfl⟩
def wdsB (V : Ws) (l : List Int) : Ws := bkW :: l.map fun k => V.getD k.toNat []
def printB (V : Ws) (B : Bks) : List Ws := B.map (wdsB V)
theorem name_len {v : By} (h : NameP v) : v.length ≤ 16 := h.2.1
theorem wdsB_wlen {V : Ws} (hV : ∀ v, v ∈ V → v.length ≤ 16) : ∀ (l : List Int), wlen (wdsB V l) ≤ 6 + 17 * l.length := by
  intro l
  unfold wdsB
  have : ∀ l : List Int, wlen (l.map fun k => V.getD k.toNat []) ≤ 17 * l.length := by
    intro l
    induction l with
    | nil => simp [wlen]
    | cons k l ih =>
      have h1 : (V.getD k.toNat []).length ≤ 16 := by
        by_cases h : k.toNat < V.length
        · rw [List.getD_eq_getElem?_getD, List.getElem?_eq_getElem h]; exact hV _ (List.getElem_mem h)
        · rw [List.getD_eq_getElem?_getD, List.getElem?_eq_none (by omega)]; simp
      simp only [List.map_cons, wlen, List.map_cons, List.sum_cons, List.length_cons] at ih ⊢
      omega
  have h2 := this l
  simp only [wlen, List.map_cons, List.sum_cons] at h2 ⊢
  have : bkW.length = 5 := rfl
  omega
theorem Print9_says {V : Ws} {C : List Fr} {R : List MRow} {B : Bks} (hB : FewB B) (hok : okBs V.length B) (hm : MayM V C R) : notes_Print V C R B (linesT (printB V B), 0) := by
  unfold notes_Print
  have hR := Right9_says V C R hB (by have := hm.1; omega)
  rw [decide_eq_true ⟨hok, hm⟩] at hR
  refine ⟨_, hR, IfB_true.2 ?_⟩
  have b1 := hB.1
  have nm : ∀ v, v ∈ V → v.length ≤ 16 := fun v hv => name_len (hm.2.2.2.1.2 v hv)
  have ll : ∀ ws, ws ∈ printB V B → wlen ws + 1 ≤ 200 := fun ws hw => by
    obtain ⟨l, hl, rfl⟩ := List.mem_map.1 hw
    have := wdsB_wlen nm l
    have := hB.2 l hl
    omega
  have tk : ∀ k, k ≤ B.length → (linesT ((printB V B).take k)).length ≤ 2000 := fun k hk => by
    have := linesT_len ((printB V B).take k) 200 fun ws hw => ll ws (List.mem_of_mem_take hw)
    have h2 : ((printB V B).take k).length ≤ 10 := by simp [printB]; omega
    omega
  refine LoopP.nat2 B.length (fun k s => s = linesT ((printB V B).take k)) (by simp [linesT]) ?_
  rintro X k s hk rfl hX
  unfold notes_Print_L1
  dsimp only
  refine IfB.dc (fun h => ?_) (fun h => ?_)
  · have hkl : k < B.length := by omega
    have b2 := hB.2 _ (List.getElem_mem hkl)
    refine ⟨_, Idx.nat hkl, ?_⟩
    refine LoopP.natS B[k].length (fun j ws => ws = bkW :: (B[k].take j).map fun k => V.getD k.toNat []) (by simp; rfl) ?_
    rintro Y j ws hj rfl hY
    unfold notes_Print_L2
    dsimp only
    refine IfB.dc (fun h => ?_) (fun h => ?_)
    · have hjk : j < B[k].length := by omega
      obtain ⟨a1, a2, _⟩ := hok.1.at hkl hjk
      have hlt : B[k][j].toNat < V.length := by omega
      refine ⟨_, Idx.nat hjk, V.getD B[k][j].toNat [], ⟨a1, by rw [List.getD_eq_getElem?_getD, List.getElem?_eq_getElem hlt]; rfl⟩, by unfold Fits; simp; omega, ?_⟩
      rw [wrap64' (by omega) (by omega)]
      refine hY _ hjk ?_
      rw [take_succ hjk, List.map_append]; rfl
    · have ej : j = B[k].length := by omega
      subst ej
      rw [List.take_length]
      have e : (bkW :: B[k].map fun k => V.getD k.toNat []) = wdsB V B[k] := rfl
      have hkp : k < (printB V B).length := by simp [printB]; omega
      have hw := wdsB_wlen nm B[k]
      have hlt := lineT_len (wdsB V B[k])
      have e2 : (printB V B)[k] = wdsB V B[k] := by simp [printB]
      have t1 := tk k hk
      rw [e]
      refine ⟨_, lines_Join_says (by omega), by unfold Fits; simp; omega, by unfold Fits; simp; omega, ?_⟩
      rw [wrap64' (by omega) (by omega)]
      refine hX _ hkl ?_
      rw [take_succ hkp, linesT_app, e2]
      simp [linesT]
  · have ek : k = B.length := by omega
    subst ek
    rw [List.take_of_length_le (by simp [printB])]
end Go.Abs
end

section
namespace Go.Abs
open Go
open Classical
set_option linter.unusedVariables false
set_option linter.unusedSimpArgs false
set_option linter.unnecessarySimpa false
end Go.Abs
end

section
namespace Go.Abs
open Go
open Classical
set_option linter.unusedVariables false
set_option linter.unusedSimpArgs false
set_option linter.unnecessarySimpa false
def Short10 (q : Rat) : Prop := (decT q.num.natAbs).length ≤ 400 ∧ (decT q.den).length ≤ 400
end Go.Abs
end

section
namespace Go.Abs
open Go
open Classical
set_option linter.unusedVariables false
set_option linter.unusedSimpArgs false
set_option linter.unnecessarySimpa false
structure QMay (V : Ws) (C : List Rat) (R : List QRow) : Prop where
  v60 : V.length ≤ 60
  cl : C.length = V.length
  r60 : R.length ≤ 60
  nv : NamesP V
  nr : NamesP (R.map (·.1))
  rows : ∀ r, r ∈ R → r.2.1.length = V.length ∧ -1 ≤ r.2.2.1 ∧ r.2.2.1 ≤ 1
  sc : ∀ q, q ∈ C → Short10 q
  sr : ∀ r, r ∈ R → (∀ q, q ∈ r.2.1 → Short10 q) ∧ Short10 r.2.2.2
theorem name_wd {v : By} (h : NameP v) : wdOK v := by
  refine ⟨fun e => by have := h.1; rw [e] at this; simp at this, fun b hb => ?_⟩
  obtain ⟨i, hi, rfl⟩ := List.mem_iff_getElem.1 hb
  have := h.2.2 i v[i] hi (List.getElem?_eq_getElem hi)
  unfold nmOk at this
  omega
end Go.Abs
end

section
namespace Go.Abs
open Go
open Classical
set_option linter.unusedVariables false
set_option linter.unusedSimpArgs false
set_option linter.unnecessarySimpa false
theorem idxN_nd {V : Ws} (hn : V.Nodup) {k : Int} (h0 : 0 ≤ k) (h1 : k < V.length) : V.getD k.toNat [] ∈ V ∧ idxN V (V.getD k.toNat []) = k := by
  have hk : k.toNat < V.length := by omega
  have e : V.getD k.toNat [] = V[k.toNat] := by rw [List.getD_eq_getElem?_getD, List.getElem?_eq_getElem hk]; rfl
  rw [e]
  have hm := List.getElem_mem hk
  refine ⟨hm, ?_⟩
  rw [(idxN_at hm).1, idx_nodup hk hn]; omega
theorem plS_back {V : Ws} (hn : V.Nodup) : ∀ (l had : List Int), (had ++ l).Nodup → (∀ k, k ∈ l → 0 ≤ k ∧ k < V.length) → plS V had (l.map fun k => V.getD k.toNat []) = some l
  | [], had, _, _ => rfl
  | k :: l, had, hd, hr => by
    obtain ⟨h1, h2⟩ := hr k (by simp)
    obtain ⟨a, b⟩ := idxN_nd hn h1 h2
    have hk : k ∉ had := fun hh => by
      rw [List.nodup_append] at hd
      exact hd.2.2 k hh k (by simp) rfl
    rw [List.map_cons, plS, b, if_pos ⟨a, hk⟩, plS_back hn l (had ++ [k]) (by simpa using hd) (fun q hq => hr q (by simp [hq]))]
    rfl
theorem fold_back {V : Ws} (hn : V.Nodup) : ∀ (P : Bks) (had : List Int) (out : Bks) (n : Int), (had ++ P.flatten).Nodup → (∀ k, k ∈ P.flatten → 0 ≤ k ∧ k < V.length) → (∀ l, l ∈ P → l ≠ []) → foldN V had out (linesN n (P.map (wdsB V))) = .inr (out ++ P.map sortI)
  | [], had, out, n, _, _, _ => by simp [linesN, foldN]
  | l :: P, had, out, n, hd, hr, hne => by
    have h1 : 1 ≤ l.length := List.length_pos_iff.2 (hne l (by simp))
    rw [List.flatten_cons] at hd hr
    rw [← List.append_assoc] at hd
    rw [List.map_cons, linesN, foldN, if_neg]
    · have hp : plS V had (wdsB V l).tail = some l := plS_back hn l had (List.nodup_append.1 hd).1 (fun k hk => hr k (by simp [hk]))
      simp only [hp]
      rw [fold_back hn P _ _ _ hd (fun k hk => hr k (by simp [hk])) (fun m hm => hne m (by simp [hm]))]
      simp
    · rintro (h | h)
      · exact h rfl
      · simp [wdsB] at h; omega
theorem wdsB_ok {V : Ws} (hV : ∀ v, v ∈ V → NameP v) {l : List Int} (hr : ∀ k, k ∈ l → 0 ≤ k ∧ k < V.length) : wdsB V l ≠ [] ∧ ∀ w, w ∈ wdsB V l → wdOK w := by
  refine ⟨by simp [wdsB], fun w hw => ?_⟩
  rcases List.mem_cons.1 hw with rfl | hw
  · exact ⟨by simp [bkW], fun b hb => by simp [bkW] at hb; rcases hb with rfl | rfl | rfl | rfl | rfl <;> decide⟩
  · obtain ⟨k, hk, rfl⟩ := List.mem_map.1 hw
    obtain ⟨h1, h2⟩ := hr k hk
    have hk : k.toNat < V.length := by omega
    rw [List.getD_eq_getElem?_getD, List.getElem?_eq_getElem hk]
    exact name_wd (hV _ (List.getElem_mem hk))
theorem texts_len {V : Ws} (nm : ∀ v, v ∈ V → v.length ≤ 16) {P : Bks} (hP : FewB P) (k : Nat) : (linesT ((P.map (wdsB V)).take k)).length ≤ 2000 := by
  have := linesT_len ((P.map (wdsB V)).take k) 200 fun ws hw => by
    obtain ⟨l, hl, rfl⟩ := List.mem_map.1 (List.mem_of_mem_take hw)
    have := wdsB_wlen nm l
    have := hP.2 l hl
    omega
  have h2 : ((P.map (wdsB V)).take k).length ≤ 10 := by have := hP.1; simp; omega
  omega
theorem parse_back9 {V : Ws} {C : List Fr} {R : List MRow} {B P : Bks} (hm : MayM V C R) (hV : V.length ≤ 12) (hB : okBs V.length B) (hP : FewB P) (hp : (P.map sortI).Perm B) : notes_Parse V C R (linesT (P.map (wdsB V))) (B, 0, 0) := by
  have hne : ∀ l, l ∈ B → l ≠ [] := fun l hl => (hB.2.1 l hl).1
  have fl : P.flatten.Perm B.flatten := by
    have h1 : ∀ P : Bks, P.flatten.Perm (P.map sortI).flatten := by
      intro P
      induction P with
      | nil => exact List.Perm.refl _
      | cons l P ih => rw [List.map_cons, List.flatten_cons, List.flatten_cons]; exact List.Perm.append (sortI_perm l).symm ih
    exact (h1 P).trans hp.flatten
  have hnd : P.flatten.Nodup := fl.nodup_iff.2 hB.1.2
  have hr : ∀ k, k ∈ P.flatten → 0 ≤ k ∧ k < V.length := fun k hk => hB.1.1 k (fl.mem_iff.1 hk)
  have hneP : ∀ l, l ∈ P → l ≠ [] := fun l hl e => by
    have := hne (sortI l) (hp.mem_iff.1 (List.mem_map.2 ⟨l, hl, rfl⟩))
    subst e
    exact this (by simp [sortI])
  have nmP : ∀ v, v ∈ V → NameP v := hm.2.2.2.1.2
  have hw : ∀ ws, ws ∈ P.map (wdsB V) → ws ≠ [] ∧ ∀ w, w ∈ ws → wdOK w := fun ws hw => by
    obtain ⟨l, hl, rfl⟩ := List.mem_map.1 hw
    exact wdsB_ok nmP fun k hk => hr k (List.mem_flatten.2 ⟨l, hl, hk⟩)
  have hl := texts_len (V := V) (fun v hv => name_len (nmP v hv)) hP (P.map (wdsB V)).length
  rw [List.take_length] at hl
  have := Parse9_says (s := linesT (P.map (wdsB V))) hm hV (by omega) (linesT_rightP hw)
  rw [allL_T hw, fold_back hm.2.2.2.1.1 P [] [] 0 (by simpa using hnd) hr hneP] at this
  have e : sortB ([] ++ P.map sortI) = B := by
    rw [List.nil_append]
    have h1 : B.flatten.Nodup := hB.1.2
    refine (sortB_eq (B := P.map sortI) (d := B) ?_ ?_ ?_ hp.symm).symm
    · exact hp.flatten.nodup_iff.2 h1
    · exact fun l hl => hne l (hp.mem_iff.1 hl)
    · have := hB.2.2
      rw [List.pairwise_cons] at this
      have h2 := List.pairwise_map.1 this.2
      exact h2.imp fun h => Int.le_of_lt h
  rw [resN, e] at this
  exact this
end Go.Abs
end

section
namespace Go.Abs
open Go.RowKit Go.Proofs
set_option maxRecDepth 100000
set_option linter.unusedVariables false
set_option linter.unusedSimpArgs false
def V9 : Ws := [[120], [121], [122]]
def q9 : Fr := (false, [1], [1])
def C9 : List Fr := [q9, q9, q9]
def B9 : Bks := [[0, 1], [2]]
def P9 : Bks := [[2], [1, 0]]
def t9 : By := [98, 108, 111, 99, 107, 32, 122, 10, 98, 108, 111, 99, 107, 32, 121, 32, 120, 10]
def u9 : By := [98, 108, 111, 99, 107, 32, 120, 32, 121, 10, 98, 108, 111, 99, 107, 32, 122, 10]
theorem name1 {c : UInt8} (h1 : 97 ≤ c.toNat) (h2 : c.toNat ≤ 122) : NameP [c] := ⟨by simp, by simp, fun i b hi hb => by
  have : i = 0 := by simpa using hi
  subst this
  simp at hb; subst hb
  exact .inl ⟨h1, h2⟩⟩
theorem may9 : MayM V9 C9 [] := by
  refine ⟨by decide, by decide, by decide, ⟨by decide, fun v hv => ?_⟩, ⟨by decide, fun v hv => by simp at hv⟩, fun r hr => by simp at hr⟩
  simp [V9] at hv
  rcases hv with rfl | rfl | rfl <;> exact name1 (by decide) (by decide)
theorem okB9 : okBs V9.length B9 := by
  refine ⟨⟨by decide, by decide⟩, fun l hl => ?_, by decide⟩
  simp [B9] at hl
  rcases hl with rfl | rfl <;> decide
theorem perm9 : (P9.map sortI).Perm B9 := by
  have h1 : sortI [2] = [2] := (sortI_eq (l := [2]) (d := [2]) (by simp [SrtK]) (List.Perm.refl _)).symm
  have h2 : sortI [1, 0] = [0, 1] := (sortI_eq (l := [1, 0]) (d := [0, 1]) (by simp [SrtK]) (List.Perm.swap _ _ _)).symm
  show [sortI [2], sortI [1, 0]].Perm [[0, 1], [2]]
  rw [h1, h2]
  exact List.Perm.swap _ _ _
theorem fewP9 : FewB P9 := ⟨by decide, fun l hl => by
  simp [P9] at hl
  rcases hl with rfl | rfl <;> decide⟩
theorem fewB9 : FewB B9 := ⟨by decide, fun l hl => by
  simp [B9] at hl
  rcases hl with rfl | rfl <;> decide⟩
theorem parse9 : notes_Parse V9 C9 [] t9 (B9, 0, 0) := parse_back9 may9 (by decide) okB9 fewP9 perm9
theorem print9 : notes_Print V9 C9 [] B9 (u9, 0) := Print9_says fewB9 okB9 may9
theorem home9 : notes_Home V9 C9 [] B9 [0, 0, 1] := by
  have h := Home9_says V9 C9 [] fewB9 (by decide)
  rw [if_pos ⟨okB9, may9⟩] at h
  exact h
theorem int9 : rat_Int 1 q9 := by
  have h := sg1 false
  unfold sgF at h
  rw [words_one (by omega) (by omega)] at h
  exact h
def m9 : AV := .agg [.pd (.sl (V9.map elS)), .pd (.sl (C9.map elQ1)), .pd (.sl [])]
def n9 : AV := .agg [.pd (.sl (B9.map elQ3))]
def tab9 : List (FuncId × List AV × AV) := [(43, [.pd (.int .i64 1)], .agg [.pd (.bool false), .pd (.sl [.int .u32 1]), .pd (.sl [.int .u32 1])]), (10, [m9, .pd (.str t9)], .tup [n9, .pd (.int .i64 0), .pd (.int .i64 0)]), (22, [m9, n9], .tup [.pd (.str u9), .pd (.int .i64 0)]), (19, [m9, n9], .pd (.sl [.int .i64 0, .int .i64 0, .int .i64 1]))]
theorem tab9_ok (m : Tp) : TabOK Tryz.prog (gtT m) tab9 :=
  .cons (rat_Int_ok m 1 int9) (hasT 43 (by kernel_rfl)) rfl (.cons (notes_Parse_ok m V9 C9 [] t9 parse9) (hasT 10 (by kernel_rfl)) rfl (.cons (notes_Print_ok m V9 C9 [] B9 print9) (hasT 22 (by kernel_rfl)) rfl (.cons (notes_Home_ok m V9 C9 [] B9 home9) (hasT 19 (by kernel_rfl)) rfl .nil)))
def orc0 (g : FuncId) (args : List AV) (M : Mem) : Option (AV × Mem × Bool) := none
theorem orc0_ok (m : Tp) (f : FuncId) (args : List AV) (M : Mem) (z : AV × Mem × Bool) (h : orc0 f args M = some z) : CallOK Tryz.prog (gtT m) f args M z := by cases h
theorem awake_runs09 (m : Tp) : saysTrue Tryz.prog (gtT m) (orcT tab9 orc0) (fun _ => false) 400 9 [] = true := by kernel_rfl
theorem offcutlaw09_awake_ok (m : Tp) {r : Bool} (h : offcutlaw09_awake r) : ASpec Tryz.prog (gtT m) 9 [] (· = .pd (.bool r)) := by
  obtain rfl := h
  exact saysTrue_ok mixedT namesT (orcT_ok (tab9_ok m) (orc0_ok m)) (awake_runs09 m)
end Go.Abs
end

section
namespace Go.Abs
open Go.Proofs
set_option maxHeartbeats 4000000
set_option maxRecDepth 20000
set_option linter.unusedVariables false
set_option linter.unusedSimpArgs false
set_option linter.unnecessarySimpa false
theorem offcutref09_Find_ok (m : Tp) (p0 : List (List UInt8)) (p1 : List UInt8) {r : Int} (h : offcutref09_Find p0 p1 r) : ASpec Tryz.prog (gtT m) 34 [.pd (.sl (p0.map elS)), .pd (.str p1)] (· = .pd (.int .i64 r)) := by
  refine ASpec_tree Tryz.f34 mixedT (askZ [9, 10, 11] false [29] [26]) (by kernel_rfl) ?_
  unfold offcutref09_Find at h
  refine H_loopP (F := offcutref09_Find_L1 p0 p1 r) (s0 := (0 : Int)) h () 19 0
    (fun (s100 : Int) (() : Unit) => [(0, .pd (.sl (p0.map elS))), (1, .pd (.str p1)), (5, .pd (.int .i64 s100))])
    (fun (s100 : Int) (() : Unit) => []) (fun (s100 : Int) (() : Unit) => True) trivial [] mixedT (askZ [9, 10, 11] false [29] [26])
    (by kernel_rfl) (by kernel_rfl) (by kernel_rfl) (by kernel_rfl) (by kernel_rfl) (fun _ _ => rfl) ?_
  rintro X1 s100 ⟨⟩ - h
  dsimp only [offcutref09_Find_L1] at h
  refine H_ask _ _ (by kernel_rfl) (ask_len (P := Tryz.prog) (M := []) (t := 22) (et := 9) (el := elS) (by kernel_rfl) (e := p0)) ?_
  refine H_split (decide (s100 < (p0.length : Int))) (by kernel_rfl) (fun hp1 => ?_) (fun hp1 => ?_)
  · replace h := h.t hp1
    obtain ⟨x2, hx3, h⟩ := h
    refine H_ask _ _ (by kernel_rfl) (ask_idx (P := Tryz.prog) (M := []) (t := 22) (et := 9) (k := .i64) (lv := lvS) okS leS (by kernel_rfl) (by kernel_rfl) hx3) ?_
    refine H_askK (.pd (.str x2)) ([]) (by kernel_rfl) ?_
    refine H_split (x2 == p1) (by kernel_rfl) (fun hc => ?_) (fun hc => ?_)
    · replace h := h.t hc; clear hc
      refine H_leaveP .ret (by kernel_rfl) rfl ?_
      exact H_end .ret (.pd (.int .i64 s100)) (by kernel_rfl) rfl (by kernel_rfl) (by subst h; rfl)
    · replace h := h.f hc; clear hc
      exact H_againP (st := _) (IntKind.i64.wrap (s100 + 1)) () h trivial (by kernel_rfl) (by kernel_rfl) (by kernel_rfl) (by kernel_rfl) (by kernel_rfl)
  · replace h := h.f hp1
    refine H_leaveP (.exit 0) (by kernel_rfl) rfl ?_
    exact H_end .ret (.pd (.int .i64 (-1))) (by kernel_rfl) rfl (by kernel_rfl) (by subst h; rfl)
theorem offcutref09_Parse_ok (m : Tp) (p0 : List (List UInt8)) (p1 : List UInt8) {r : (List (List Int)) × Int × Int} (h : offcutref09_Parse p0 p1 r) : ASpec Tryz.prog (gtT m) 13 [.pd (.sl (p0.map elS)), .pd (.str p1)] (· = .tup [.pd (.sl (r.1.map elQ3)), .pd (.int .i64 r.2.1), .pd (.int .i64 r.2.2)]) := by
  refine ASpec_tree Tryz.f13 mixedT (askZ [9, 10, 11] true [29] [26]) (by kernel_rfl) ?_
  unfold offcutref09_Parse at h
  let o1 : Ob := rowV lvQ3 1 ([] : List (List Int)) 0 false
  refine H_ask _ _ (by kernel_rfl) (ask_len (P := Tryz.prog) (M := [o1]) (t := 22) (et := 9) (el := elS) (by kernel_rfl) (e := p0)) ?_
  obtain ⟨hx1, h⟩ := h
  refine H_ask _ _ (by kernel_rfl) (ask_make (P := Tryz.prog) (M := [o1]) (t := 42) (k := .i64) (lv := lvI64) (by_ := 8) (n := (p0.length : Int)) (z := (0 : Int)) okI64 ⟨3, .int .i64 0, by kernel_rfl, by kernel_rfl, rfl, by kernel_rfl, by decide, rfl⟩ hx1.1 hx1.2.1 hx1.2.2) ?_
  refine H_loopP (F := offcutref09_Parse_L1 p0 p1 r) (s0 := ((0 : Int), (List.replicate (Int.toNat (p0.length : Int)) (0 : Int)))) h () 85 2
    (fun ((s100, s151) : Int × (List Int)) (() : Unit) => [(0, .pd (.sl (p0.map elS))), (1, .pd (.str p1)), (7, .own 1 ((List.replicate (Int.toNat (p0.length : Int)) (0 : Int)).length) 0), (8, .pd (.int .i64 s100))])
    (fun ((s100, s151) : Int × (List Int)) (() : Unit) => [rowV lvQ3 1 ([] : List (List Int)) 0 false, .cells (rowC lvI64 s151) 1 0 false]) (fun ((s100, s151) : Int × (List Int)) (() : Unit) => (List.replicate (Int.toNat (p0.length : Int)) (0 : Int)).length = s151.length) rfl [] mixedT (askZ [9, 10, 11] true [29] [26])
    (by kernel_rfl) (by kernel_rfl) (by kernel_rfl) (by kernel_rfl) (by kernel_rfl) (fun _ _ => rfl) ?_
  rintro X1 ⟨s100, s151⟩ ⟨⟩ hn101 h
  dsimp only [offcutref09_Parse_L1] at h
  let o2 : Ob := .cells (rowC lvI64 s151) 1 0 false
  refine H_ask _ _ (by kernel_rfl) (ask_olen (P := Tryz.prog) (M := [o1, o2]) (t := 42) (et := 3) (lv := lvI64) (e := s151) (b := 1) (n := (List.replicate (Int.toNat (p0.length : Int)) (0 : Int)).length) (by kernel_rfl) (by kernel_rfl) (rowIs_c (lv := lvI64) (s := 1) (e := s151) (ver := 0) (z := false)) hn101) ?_
  refine H_split (decide (s100 < (s151.length : Int))) (by kernel_rfl) (fun hp4 => ?_) (fun hp4 => ?_)
  · replace h := h.t hp4
    obtain ⟨x5, hx6, h⟩ := h
    refine H_ask _ _ (by kernel_rfl) (ask_oidx (P := Tryz.prog) (M := [o1, o2]) (t := 42) (et := 3) (k := .i64) (lv := lvI64) (e := s151) (s := 1) (b := 1) (by kernel_rfl) (by kernel_rfl) (by kernel_rfl) (rowIs_c (lv := lvI64) (s := 1) (e := s151) (ver := 0) (z := false)) (n := (List.replicate (Int.toNat (p0.length : Int)) (0 : Int)).length) hn101 hx6) ?_
    refine H_ask _ _ (by kernel_rfl) (ask_ostore (P := Tryz.prog) (M := [o1, o2]) (t := 3) (lv := lvI64) (b := 1) (i := s100) (y := (-1 : Int)) (X := .pd (.int .i64 (-1))) okI64 (by kernel_rfl) (by kernel_rfl) (rowIs_c (lv := lvI64) (s := 1) (e := s151) (ver := 0) (z := false)) hx6 (by kernel_rfl)) ?_
    exact H_againP (st := _) ((IntKind.i64.wrap (s100 + 1)), (s151.set (Int.toNat s100) (-1 : Int))) () h (ls_set hn101) (by kernel_rfl) (by kernel_rfl) (by kernel_rfl) (by kernel_rfl) (by kernel_rfl)
  replace h := h.f hp4
  refine H_leaveP (.exit 0) (by kernel_rfl) rfl ?_
  obtain ⟨x7, hx8, h⟩ := h
  refine H_valW (g := 33) (args := [.pd (.str p1)]) (M := [o1, o2]) (.pd (.sl (x7.map elQ2))) (.inl (by kernel_rfl)) (by kernel_rfl) (offcutref07_All_ok m _ hx8) (by kernel_rfl) (hasT 33 (by kernel_rfl)) ?_
  refine H_loopP (F := offcutref09_Parse_L2 p0 x7 r) (s0 := ((0 : Int), s151)) h () 85 2
    (fun ((s200, s251) : Int × (List Int)) (() : Unit) => [(0, .pd (.sl (p0.map elS))), (7, .own 1 ((List.replicate (Int.toNat (p0.length : Int)) (0 : Int)).length) 0), (9, .pd (.sl (x7.map elQ2))), (10, .pd (.int .i64 s200))])
    (fun ((s200, s251) : Int × (List Int)) (() : Unit) => [rowV lvQ3 1 ([] : List (List Int)) 0 false, .cells (rowC lvI64 s251) 1 0 false]) (fun ((s200, s251) : Int × (List Int)) (() : Unit) => (List.replicate (Int.toNat (p0.length : Int)) (0 : Int)).length = s251.length) hn101 [] mixedT (askZ [9, 10, 11] true [29] [26])
    (by kernel_rfl) (by kernel_rfl) (by kernel_rfl) (by kernel_rfl) (by kernel_rfl) (fun _ _ => rfl) ?_
  rintro X2 ⟨s200, s251⟩ ⟨⟩ hn201 h
  dsimp only [offcutref09_Parse_L2] at h
  let o3 : Ob := .cells (rowC lvI64 s251) 1 0 false
  refine H_ask _ _ (by kernel_rfl) (ask_len (P := Tryz.prog) (M := [o1, o3]) (t := 73) (et := 75) (el := elQ2) (by kernel_rfl) (e := x7)) ?_
  refine H_split (decide (s200 < (x7.length : Int))) (by kernel_rfl) (fun hp9 => ?_) (fun hp9 => ?_)
  · replace h := h.t hp9
    obtain ⟨x10, x11, hx12, h⟩ := h
    refine H_ask _ _ (by kernel_rfl) (ask_idx (P := Tryz.prog) (M := [o1, o3]) (t := 73) (et := 75) (k := .i64) (lv := lvQ2) okQ2 leQ2 (by kernel_rfl) (by kernel_rfl) hx12) ?_
    refine H_askK (.rd [.sl (x11.map elS)]) ([o1, o3]) (by kernel_rfl) ?_
    refine H_askK (.pd (.sl (x11.map elS))) ([o1, o3]) (by kernel_rfl) ?_
    obtain ⟨x13, hx14, h⟩ := h
    refine H_ask _ _ (by kernel_rfl) (ask_idx (P := Tryz.prog) (M := [o1, o3]) (t := 22) (et := 9) (k := .i64) (lv := lvS) okS leS (by kernel_rfl) (by kernel_rfl) hx14) ?_
    refine H_askK (.pd (.str x13)) ([o1, o3]) (by kernel_rfl) ?_
    refine H_split (!(x13 == ([98, 108, 111, 99, 107] : List UInt8))) (by kernel_rfl) (fun hc => ?_) (fun hc => ?_)
    · replace h := h.t hc; clear hc
      refine H_draw (by kernel_rfl) ?_
      obtain ⟨x15, x16, hx17, h⟩ := h
      refine H_ask _ _ (by kernel_rfl) (ask_idx (P := Tryz.prog) (M := [o1, o3]) (t := 73) (et := 75) (k := .i64) (lv := lvQ2) okQ2 leQ2 (by kernel_rfl) (by kernel_rfl) hx17) ?_
      refine H_askK (.rd [.int .i64 x15, .sl (x16.map elS)]) ([o1, o3]) (by kernel_rfl) ?_
      refine H_askK (.pd (.int .i64 x15)) ([o1, o3]) (by kernel_rfl) ?_
      refine H_askK (.fixed (([] : List (List Int)).map elQ3)) ([o1, o3]) (by kernel_rfl) ?_
      refine H_leaveP .ret (by kernel_rfl) rfl ?_
      exact H_end .ret (.tup [.pd (.sl (([] : List (List Int)).map elQ3)), .pd (.int .i64 x15), .pd (.int .i64 2)]) (by kernel_rfl) rfl (by kernel_rfl) (by subst h; rfl)
    replace h := h.f hc; clear hc
    refine H_ask _ _ (by kernel_rfl) (ask_len (P := Tryz.prog) (M := [o1, o3]) (t := 22) (et := 9) (el := elS) (by kernel_rfl) (e := x11)) ?_
    refine H_split (decide ((x11.length : Int) < (2 : Int))) (by kernel_rfl) (fun hp18 => ?_) (fun hp18 => ?_)
    · replace h := h.t hp18
      refine H_draw (by kernel_rfl) ?_
      obtain ⟨x19, x20, hx21, h⟩ := h
      refine H_ask _ _ (by kernel_rfl) (ask_idx (P := Tryz.prog) (M := [o1, o3]) (t := 73) (et := 75) (k := .i64) (lv := lvQ2) okQ2 leQ2 (by kernel_rfl) (by kernel_rfl) hx21) ?_
      refine H_askK (.rd [.int .i64 x19, .sl (x20.map elS)]) ([o1, o3]) (by kernel_rfl) ?_
      refine H_askK (.pd (.int .i64 x19)) ([o1, o3]) (by kernel_rfl) ?_
      refine H_askK (.fixed (([] : List (List Int)).map elQ3)) ([o1, o3]) (by kernel_rfl) ?_
      refine H_leaveP .ret (by kernel_rfl) rfl ?_
      exact H_end .ret (.tup [.pd (.sl (([] : List (List Int)).map elQ3)), .pd (.int .i64 x19), .pd (.int .i64 2)]) (by kernel_rfl) rfl (by kernel_rfl) (by subst h; rfl)
    replace h := h.f hp18
    refine H_loopP (F := offcutref09_Parse_L3 p0 x7 s200 X2 x11 r) (s0 := ((1 : Int), s251)) h () 85 2
      (fun ((s300, s351) : Int × (List Int)) (() : Unit) => [(0, .pd (.sl (p0.map elS))), (7, .own 1 ((List.replicate (Int.toNat (p0.length : Int)) (0 : Int)).length) 0), (9, .pd (.sl (x7.map elQ2))), (10, .pd (.int .i64 s200)), (11, .pd (.sl (x11.map elS))), (12, .pd (.int .i64 s300))])
      (fun ((s300, s351) : Int × (List Int)) (() : Unit) => [rowV lvQ3 1 ([] : List (List Int)) 0 false, .cells (rowC lvI64 s351) 1 0 false]) (fun ((s300, s351) : Int × (List Int)) (() : Unit) => (List.replicate (Int.toNat (p0.length : Int)) (0 : Int)).length = s351.length) hn201 [] mixedT (askZ [9, 10, 11] true [29] [26])
      (by kernel_rfl) (by kernel_rfl) (by kernel_rfl) (by kernel_rfl) (by kernel_rfl) (fun _ _ => rfl) ?_
    rintro X3 ⟨s300, s351⟩ ⟨⟩ hn301 h
    dsimp only [offcutref09_Parse_L3] at h
    let o4 : Ob := .cells (rowC lvI64 s351) 1 0 false
    refine H_ask _ _ (by kernel_rfl) (ask_len (P := Tryz.prog) (M := [o1, o4]) (t := 22) (et := 9) (el := elS) (by kernel_rfl) (e := x11)) ?_
    refine H_split (decide (s300 < (x11.length : Int))) (by kernel_rfl) (fun hp22 => ?_) (fun hp22 => ?_)
    · replace h := h.t hp22
      obtain ⟨x23, hx24, h⟩ := h
      refine H_ask _ _ (by kernel_rfl) (ask_idx (P := Tryz.prog) (M := [o1, o4]) (t := 22) (et := 9) (k := .i64) (lv := lvS) okS leS (by kernel_rfl) (by kernel_rfl) hx24) ?_
      refine H_askK (.pd (.str x23)) ([o1, o4]) (by kernel_rfl) ?_
      obtain ⟨x25, hx26, h⟩ := h
      refine H_valW (g := 34) (args := [.pd (.sl (p0.map elS)), .pd (.str x23)]) (M := [o1, o4]) (.pd (.int .i64 x25)) (.inl (by kernel_rfl)) (by kernel_rfl) (offcutref09_Find_ok m _ _ hx26) (by kernel_rfl) (hasT 34 (by kernel_rfl)) ?_
      refine H_split (decide (x25 < (0 : Int))) (by kernel_rfl) (fun hp27 => ?_) (fun hp27 => ?_)
      · replace h := h.t hp27
        refine H_draw (by kernel_rfl) ?_
        obtain ⟨x28, x29, hx30, h⟩ := h
        refine H_ask _ _ (by kernel_rfl) (ask_idx (P := Tryz.prog) (M := [o1, o4]) (t := 73) (et := 75) (k := .i64) (lv := lvQ2) okQ2 leQ2 (by kernel_rfl) (by kernel_rfl) hx30) ?_
        refine H_askK (.rd [.int .i64 x28, .sl (x29.map elS)]) ([o1, o4]) (by kernel_rfl) ?_
        refine H_askK (.pd (.int .i64 x28)) ([o1, o4]) (by kernel_rfl) ?_
        refine H_askK (.fixed (([] : List (List Int)).map elQ3)) ([o1, o4]) (by kernel_rfl) ?_
        refine H_leaveP .ret (by kernel_rfl) rfl ?_
        refine H_leaveP .ret (by kernel_rfl) rfl ?_
        exact H_end .ret (.tup [.pd (.sl (([] : List (List Int)).map elQ3)), .pd (.int .i64 x28), .pd (.int .i64 3)]) (by kernel_rfl) rfl (by kernel_rfl) (by subst h; rfl)
      replace h := h.f hp27
      obtain ⟨x31, hx32, h⟩ := h
      refine H_ask _ _ (by kernel_rfl) (ask_oidx (P := Tryz.prog) (M := [o1, o4]) (t := 42) (et := 3) (k := .i64) (lv := lvI64) (e := s351) (s := 1) (b := 1) (by kernel_rfl) (by kernel_rfl) (by kernel_rfl) (rowIs_c (lv := lvI64) (s := 1) (e := s351) (ver := 0) (z := false)) (n := (List.replicate (Int.toNat (p0.length : Int)) (0 : Int)).length) hn301 hx32) ?_
      refine H_ask _ _ (by kernel_rfl) (ask_oload (P := Tryz.prog) (M := [o1, o4]) (t := 3) (lv := lvI64) (b := 1) (i := x25) okI64 (by kernel_rfl) (by kernel_rfl) (by kernel_rfl) (rowIs_c (lv := lvI64) (s := 1) (e := s351) (ver := 0) (z := false)) hx32 rfl) ?_
      refine H_split (decide (x31 ≥ (0 : Int))) (by kernel_rfl) (fun hp33 => ?_) (fun hp33 => ?_)
      · replace h := h.t hp33
        refine H_draw (by kernel_rfl) ?_
        obtain ⟨x34, x35, hx36, h⟩ := h
        refine H_ask _ _ (by kernel_rfl) (ask_idx (P := Tryz.prog) (M := [o1, o4]) (t := 73) (et := 75) (k := .i64) (lv := lvQ2) okQ2 leQ2 (by kernel_rfl) (by kernel_rfl) hx36) ?_
        refine H_askK (.rd [.int .i64 x34, .sl (x35.map elS)]) ([o1, o4]) (by kernel_rfl) ?_
        refine H_askK (.pd (.int .i64 x34)) ([o1, o4]) (by kernel_rfl) ?_
        refine H_askK (.fixed (([] : List (List Int)).map elQ3)) ([o1, o4]) (by kernel_rfl) ?_
        refine H_leaveP .ret (by kernel_rfl) rfl ?_
        refine H_leaveP .ret (by kernel_rfl) rfl ?_
        exact H_end .ret (.tup [.pd (.sl (([] : List (List Int)).map elQ3)), .pd (.int .i64 x34), .pd (.int .i64 3)]) (by kernel_rfl) rfl (by kernel_rfl) (by subst h; rfl)
      replace h := h.f hp33
      obtain ⟨x37, hx38, h⟩ := h
      refine H_ask _ _ (by kernel_rfl) (ask_oidx (P := Tryz.prog) (M := [o1, o4]) (t := 42) (et := 3) (k := .i64) (lv := lvI64) (e := s351) (s := 1) (b := 1) (by kernel_rfl) (by kernel_rfl) (by kernel_rfl) (rowIs_c (lv := lvI64) (s := 1) (e := s351) (ver := 0) (z := false)) (n := (List.replicate (Int.toNat (p0.length : Int)) (0 : Int)).length) hn301 hx38) ?_
      refine H_ask _ _ (by kernel_rfl) (ask_ostore (P := Tryz.prog) (M := [o1, o4]) (t := 3) (lv := lvI64) (b := 1) (i := x25) (y := s200) (X := .pd (.int .i64 s200)) okI64 (by kernel_rfl) (by kernel_rfl) (rowIs_c (lv := lvI64) (s := 1) (e := s351) (ver := 0) (z := false)) hx38 (by kernel_rfl)) ?_
      exact H_againP (st := _) ((IntKind.i64.wrap (s300 + 1)), (s351.set (Int.toNat x25) s200)) () h (ls_set hn301) (by kernel_rfl) (by kernel_rfl) (by kernel_rfl) (by kernel_rfl) (by kernel_rfl)
    replace h := h.f hp22
    refine H_leaveP (.exit 4) (by kernel_rfl) rfl ?_
    exact H_againP (st := _) ((IntKind.i64.wrap (s200 + 1)), s351) () h hn301 (by kernel_rfl) (by kernel_rfl) (by kernel_rfl) (by kernel_rfl) (by kernel_rfl)
  replace h := h.f hp9
  refine H_leaveP (.exit 2) (by kernel_rfl) rfl ?_
  obtain ⟨x39, hx40, h⟩ := h
  refine H_valF (g := 35) (pre := []) (post := []) (M := [o1, o3]) 1 ((List.replicate (Int.toNat (p0.length : Int)) (0 : Int)).length) 0 (.pd (.sl (x39.map elQ3))) (by kernel_rfl) (own_pd okI64 (by decide) lgI64 (o := .cells (rowC lvI64 s251) 1 0 false) (by kernel_rfl) (rowIs_c (lv := lvI64) (s := 1) (e := s251) (ver := 0) (z := false)) (n := (List.replicate (Int.toNat (p0.length : Int)) (0 : Int)).length) hn201) (frz_c (b := 1) (l := rowC lvI64 s251) (s := 1) (ver := 0) (z := false) (by kernel_rfl)) (by kernel_rfl) (offcutref09_Blocks_ok m _ hx40) (by kernel_rfl) (hasT 35 (by kernel_rfl)) ?_
  exact H_end .ret (.tup [.pd (.sl (x39.map elQ3)), .pd (.int .i64 0), .pd (.int .i64 0)]) (by kernel_rfl) rfl (by kernel_rfl) (by subst h; rfl)
theorem offcutlaw09_NotesParses_ok (m : Tp) (p0 : List (List UInt8)) (p1 : List (Bool × (List Int) × (List Int))) (p2 : List ((List UInt8) × (List (Bool × (List Int) × (List Int))) × Int × Bool × (List Int) × (List Int))) (p3 : List UInt8) {r : Bool} (h : offcutlaw09_NotesParses p0 p1 p2 p3 r) : ASpec Tryz.prog (gtT m) 3 [.agg [.pd (.sl (p0.map elS)), .pd (.sl (p1.map elQ1)), .pd (.sl (p2.map elQ0))], .pd (.str p3)] (· = .pd (.bool r)) := by
  refine ASpec_tree Tryz.f3 mixedT (askZ [9, 10, 11] false [29] [26]) (by kernel_rfl) ?_
  unfold offcutlaw09_NotesParses at h
  let o1 : Ob := .cells [.pd (.sl (p0.map elS)), .pd (.sl (p1.map elQ1)), .pd (.sl (p2.map elQ0))] 1 0 false
  refine H_askK (.ptr 0 0 0) ([o1]) (by kernel_rfl) ?_
  refine H_askK (.agg [.pd (.sl (p0.map elS)), .pd (.sl (p1.map elQ1)), .pd (.sl (p2.map elQ0))]) ([o1]) (by kernel_rfl) ?_
  obtain ⟨x1, hx2, h⟩ := h
  refine H_valW (g := 8) (args := [.agg [.pd (.sl (p0.map elS)), .pd (.sl (p1.map elQ1)), .pd (.sl (p2.map elQ0))]]) (M := [o1]) (.pd (.bool x1)) (.inl (by kernel_rfl)) (by kernel_rfl) (offcutlaw08_Few_ok m _ _ _ hx2) (by kernel_rfl) (hasT 8 (by kernel_rfl)) ?_
  cases x1
  · replace h := h.f rfl
    obtain ⟨x39, hx40, h⟩ := h
    refine H_valW (g := 9) (args := []) (M := [o1]) (.pd (.bool x39)) (.inl (by kernel_rfl)) (by kernel_rfl) (offcutlaw09_awake_ok m  hx40) (by kernel_rfl) (hasT 9 (by kernel_rfl)) ?_
    cases x39
    · replace h := h.f rfl
      exact H_end .ret (.pd (.bool false)) (by kernel_rfl) rfl (by kernel_rfl) (by subst h; rfl)
    replace h := h.t rfl
    exact H_end .ret (.pd (.bool true)) (by kernel_rfl) rfl (by kernel_rfl) (by subst h; rfl)
  replace h := h.t rfl
  refine H_askK (.pd (.int .i64 (p3.length : Int))) ([o1]) (by kernel_rfl) ?_
  refine H_split (decide ((p3.length : Int) > (1000 : Int))) (by kernel_rfl) (fun hp3 => ?_) (fun hp3 => ?_)
  · replace h := h.t hp3
    obtain ⟨x4, hx5, h⟩ := h
    refine H_valW (g := 9) (args := []) (M := [o1]) (.pd (.bool x4)) (.inl (by kernel_rfl)) (by kernel_rfl) (offcutlaw09_awake_ok m  hx5) (by kernel_rfl) (hasT 9 (by kernel_rfl)) ?_
    cases x4
    · replace h := h.f rfl
      exact H_end .ret (.pd (.bool false)) (by kernel_rfl) rfl (by kernel_rfl) (by subst h; rfl)
    replace h := h.t rfl
    exact H_end .ret (.pd (.bool true)) (by kernel_rfl) rfl (by kernel_rfl) (by subst h; rfl)
  replace h := h.f hp3
  refine H_askK (.agg [.pd (.sl (p0.map elS)), .pd (.sl (p1.map elQ1)), .pd (.sl (p2.map elQ0))]) ([o1]) (by kernel_rfl) ?_
  obtain ⟨x6, x7, x8, hx9, h⟩ := h
  refine H_valW (g := 10) (args := [.agg [.pd (.sl (p0.map elS)), .pd (.sl (p1.map elQ1)), .pd (.sl (p2.map elQ0))], .pd (.str p3)]) (M := [o1]) (.tup [.agg [.pd (.sl (x6.map elQ3))], .pd (.int .i64 x7), .pd (.int .i64 x8)]) (.inl (by kernel_rfl)) (by kernel_rfl) (notes_Parse_ok m _ _ _ _ hx9) (by kernel_rfl) (hasT 10 (by kernel_rfl)) ?_
  let o2 : Ob := .cells [.pd (.sl (x6.map elQ3))] 1 0 false
  refine H_askK (.junk) ([o1, o2]) (by kernel_rfl) ?_
  refine H_askK (.agg [.pd (.sl (p0.map elS)), .pd (.sl (p1.map elQ1)), .pd (.sl (p2.map elQ0))]) ([o1, o2]) (by kernel_rfl) ?_
  obtain ⟨x10, hx11, h⟩ := h
  refine H_valW (g := 11) (args := [.agg [.pd (.sl (p0.map elS)), .pd (.sl (p1.map elQ1)), .pd (.sl (p2.map elQ0))]]) (M := [o1, o2]) (.pd (.bool x10)) (.inl (by kernel_rfl)) (by kernel_rfl) (model_Right_ok m _ _ _ hx11) (by kernel_rfl) (hasT 11 (by kernel_rfl)) ?_
  cases x10
  · replace h := h.f rfl
    refine H_askK (.ptr 1 0 0) ([o1, o2]) (by kernel_rfl) ?_
    refine H_askK (.pd (.sl (x6.map elQ3))) ([o1, o2]) (by kernel_rfl) ?_
    refine H_ask _ _ (by kernel_rfl) (ask_len (P := Tryz.prog) (M := [o1, o2]) (t := 29) (et := 42) (el := elQ3) (by kernel_rfl) (e := x6)) ?_
    refine H_split ((x6.length : Int) == (0 : Int)) (by kernel_rfl) (fun hp34 => ?_) (fun hp34 => ?_)
    · replace h := h.t hp34
      refine H_split (x7 == (0 : Int)) (by kernel_rfl) (fun hp35 => ?_) (fun hp35 => ?_)
      · replace h := h.t hp35
        refine H_split (x8 == (1 : Int)) (by kernel_rfl) (fun hp36 => ?_) (fun hp36 => ?_)
        · replace h := h.t hp36
          obtain ⟨x37, hx38, h⟩ := h
          refine H_valW (g := 9) (args := []) (M := [o1, o2]) (.pd (.bool x37)) (.inl (by kernel_rfl)) (by kernel_rfl) (offcutlaw09_awake_ok m  hx38) (by kernel_rfl) (hasT 9 (by kernel_rfl)) ?_
          cases x37
          · replace h := h.f rfl
            exact H_end .ret (.pd (.bool false)) (by kernel_rfl) rfl (by kernel_rfl) (by subst h; rfl)
          replace h := h.t rfl
          exact H_end .ret (.pd (.bool true)) (by kernel_rfl) rfl (by kernel_rfl) (by subst h; rfl)
        replace h := h.f hp36
        exact H_end .ret (.pd (.bool false)) (by kernel_rfl) rfl (by kernel_rfl) (by subst h; rfl)
      replace h := h.f hp35
      exact H_end .ret (.pd (.bool false)) (by kernel_rfl) rfl (by kernel_rfl) (by subst h; rfl)
    replace h := h.f hp34
    exact H_end .ret (.pd (.bool false)) (by kernel_rfl) rfl (by kernel_rfl) (by subst h; rfl)
  replace h := h.t rfl
  obtain ⟨x12, hx13, h⟩ := h
  refine H_valW (g := 12) (args := [.pd (.str p3)]) (M := [o1, o2]) (.pd (.bool x12)) (.inl (by kernel_rfl)) (by kernel_rfl) (offcutref07_Right_ok m _ hx13) (by kernel_rfl) (hasT 12 (by kernel_rfl)) ?_
  cases x12
  · replace h := h.f rfl
    refine H_askK (.ptr 1 0 0) ([o1, o2]) (by kernel_rfl) ?_
    refine H_askK (.pd (.sl (x6.map elQ3))) ([o1, o2]) (by kernel_rfl) ?_
    refine H_ask _ _ (by kernel_rfl) (ask_len (P := Tryz.prog) (M := [o1, o2]) (t := 29) (et := 42) (el := elQ3) (by kernel_rfl) (e := x6)) ?_
    refine H_split ((x6.length : Int) == (0 : Int)) (by kernel_rfl) (fun hp29 => ?_) (fun hp29 => ?_)
    · replace h := h.t hp29
      refine H_split (x7 == (0 : Int)) (by kernel_rfl) (fun hp30 => ?_) (fun hp30 => ?_)
      · replace h := h.t hp30
        refine H_split (x8 == (2 : Int)) (by kernel_rfl) (fun hp31 => ?_) (fun hp31 => ?_)
        · replace h := h.t hp31
          obtain ⟨x32, hx33, h⟩ := h
          refine H_valW (g := 9) (args := []) (M := [o1, o2]) (.pd (.bool x32)) (.inl (by kernel_rfl)) (by kernel_rfl) (offcutlaw09_awake_ok m  hx33) (by kernel_rfl) (hasT 9 (by kernel_rfl)) ?_
          cases x32
          · replace h := h.f rfl
            exact H_end .ret (.pd (.bool false)) (by kernel_rfl) rfl (by kernel_rfl) (by subst h; rfl)
          replace h := h.t rfl
          exact H_end .ret (.pd (.bool true)) (by kernel_rfl) rfl (by kernel_rfl) (by subst h; rfl)
        replace h := h.f hp31
        exact H_end .ret (.pd (.bool false)) (by kernel_rfl) rfl (by kernel_rfl) (by subst h; rfl)
      replace h := h.f hp30
      exact H_end .ret (.pd (.bool false)) (by kernel_rfl) rfl (by kernel_rfl) (by subst h; rfl)
    replace h := h.f hp29
    exact H_end .ret (.pd (.bool false)) (by kernel_rfl) rfl (by kernel_rfl) (by subst h; rfl)
  replace h := h.t rfl
  refine H_askK (.ptr 0 0 0) ([o1, o2]) (by kernel_rfl) ?_
  refine H_askK (.pd (.sl (p0.map elS))) ([o1, o2]) (by kernel_rfl) ?_
  obtain ⟨x14, x15, x16, hx17, h⟩ := h
  refine H_valW (g := 13) (args := [.pd (.sl (p0.map elS)), .pd (.str p3)]) (M := [o1, o2]) (.tup [.pd (.sl (x14.map elQ3)), .pd (.int .i64 x15), .pd (.int .i64 x16)]) (.inl (by kernel_rfl)) (by kernel_rfl) (offcutref09_Parse_ok m _ _ hx17) (by kernel_rfl) (hasT 13 (by kernel_rfl)) ?_
  refine H_askK (.ptr 1 0 0) ([o1, o2]) (by kernel_rfl) ?_
  refine H_askK (.pd (.sl (x6.map elQ3))) ([o1, o2]) (by kernel_rfl) ?_
  obtain ⟨x18, hx19, h⟩ := h
  refine H_valW (g := 14) (args := [.pd (.sl (x6.map elQ3)), .pd (.sl (x14.map elQ3))]) (M := [o1, o2]) (.pd (.bool x18)) (.inl (by kernel_rfl)) (by kernel_rfl) (offcutlaw09_same_ok m _ _ hx19) (by kernel_rfl) (hasT 14 (by kernel_rfl)) ?_
  cases x18
  · replace h := h.f rfl
    exact H_end .ret (.pd (.bool false)) (by kernel_rfl) rfl (by kernel_rfl) (by subst h; rfl)
  replace h := h.t rfl
  refine H_split (x7 == x15) (by kernel_rfl) (fun hp20 => ?_) (fun hp20 => ?_)
  · replace h := h.t hp20
    refine H_split (x8 == x16) (by kernel_rfl) (fun hp21 => ?_) (fun hp21 => ?_)
    · replace h := h.t hp21
      refine H_split (x16 != (0 : Int)) (by kernel_rfl) (fun hp22 => ?_) (fun hp22 => ?_)
      · replace h := h.t hp22
        obtain ⟨x23, hx24, h⟩ := h
        refine H_valW (g := 9) (args := []) (M := [o1, o2]) (.pd (.bool x23)) (.inl (by kernel_rfl)) (by kernel_rfl) (offcutlaw09_awake_ok m  hx24) (by kernel_rfl) (hasT 9 (by kernel_rfl)) ?_
        cases x23
        · replace h := h.f rfl
          exact H_end .ret (.pd (.bool false)) (by kernel_rfl) rfl (by kernel_rfl) (by subst h; rfl)
        replace h := h.t rfl
        exact H_end .ret (.pd (.bool true)) (by kernel_rfl) rfl (by kernel_rfl) (by subst h; rfl)
      replace h := h.f hp22
      refine H_askK (.agg [.pd (.sl (p0.map elS)), .pd (.sl (p1.map elQ1)), .pd (.sl (p2.map elQ0))]) ([o1, o2]) (by kernel_rfl) ?_
      refine H_askK (.agg [.pd (.sl (x6.map elQ3))]) ([o1, o2]) (by kernel_rfl) ?_
      obtain ⟨x25, hx26, h⟩ := h
      refine H_valW (g := 15) (args := [.agg [.pd (.sl (p0.map elS)), .pd (.sl (p1.map elQ1)), .pd (.sl (p2.map elQ0))], .agg [.pd (.sl (x6.map elQ3))]]) (M := [o1, o2]) (.pd (.bool x25)) (.inl (by kernel_rfl)) (by kernel_rfl) (notes_Right_ok m _ _ _ _ hx26) (by kernel_rfl) (hasT 15 (by kernel_rfl)) ?_
      cases x25
      · replace h := h.f rfl
        exact H_end .ret (.pd (.bool false)) (by kernel_rfl) rfl (by kernel_rfl) (by subst h; rfl)
      replace h := h.t rfl
      obtain ⟨x27, hx28, h⟩ := h
      refine H_valW (g := 9) (args := []) (M := [o1, o2]) (.pd (.bool x27)) (.inl (by kernel_rfl)) (by kernel_rfl) (offcutlaw09_awake_ok m  hx28) (by kernel_rfl) (hasT 9 (by kernel_rfl)) ?_
      cases x27
      · replace h := h.f rfl
        exact H_end .ret (.pd (.bool false)) (by kernel_rfl) rfl (by kernel_rfl) (by subst h; rfl)
      replace h := h.t rfl
      exact H_end .ret (.pd (.bool true)) (by kernel_rfl) rfl (by kernel_rfl) (by subst h; rfl)
    replace h := h.f hp21
    exact H_end .ret (.pd (.bool false)) (by kernel_rfl) rfl (by kernel_rfl) (by subst h; rfl)
  replace h := h.f hp20
  exact H_end .ret (.pd (.bool false)) (by kernel_rfl) rfl (by kernel_rfl) (by subst h; rfl)
end Go.Abs
end

section
namespace Go.Abs
open Go
open Classical
set_option linter.unusedVariables false
set_option linter.unusedSimpArgs false
set_option linter.unnecessarySimpa false
theorem ent_mem : ∀ (B : Bks) (n j : Nat) (hj : j < B.length) {x : Int}, x ∈ B[j] → (x, ((n + j : Nat) : Int)) ∈ entB n B
  | l :: B, n, 0, _, x, h => by rw [entB]; exact List.mem_append_left _ (List.mem_map.2 ⟨x, h, rfl⟩)
  | l :: B, n, j + 1, hj, x, h => by
    rw [entB]
    have := ent_mem B (n + 1) j (by simpa using hj) (x := x) h
    rw [show n + 1 + j = n + (j + 1) by omega] at this
    exact List.mem_append_right _ this
theorem mem_ent : ∀ (B : Bks) (n : Nat) {x v : Int}, (x, v) ∈ entB n B → ∃ (j : Nat) (hj : j < B.length), v = ((n + j : Nat) : Int) ∧ x ∈ B[j]
  | [], n, x, v, h => by cases h
  | l :: B, n, x, v, h => by
    rw [entB] at h
    rcases List.mem_append.1 h with h | h
    · obtain ⟨y, hy, e⟩ := List.mem_map.1 h
      cases e
      exact ⟨0, by simp, by simp, hy⟩
    · obtain ⟨j, hj, e, hx⟩ := mem_ent B (n + 1) h
      exact ⟨j + 1, by simp; omega, by rw [e]; omega, hx⟩
theorem homeOf_out {B : Bks} {i : Nat} (h : ∀ l, l ∈ B → (i : Int) ∉ l) : homeOf B i = -1 := by
  unfold homeOf
  cases hf : (entB 0 B).find? (fun p => p.1 == (i : Int)) with
  | none => rfl
  | some p =>
    have h1 := List.mem_of_find?_eq_some hf
    have h2 : p.1 = (i : Int) := by simpa using List.find?_some hf
    obtain ⟨j, hj, _, hx⟩ := mem_ent B 0 (x := p.1) (v := p.2) h1
    rw [h2] at hx
    exact absurd hx (h _ (List.getElem_mem hj))
theorem homeOf_rng (B : Bks) (i : Nat) : homeOf B i = -1 ∨ ∃ j, j < B.length ∧ homeOf B i = (j : Int) := by
  unfold homeOf
  cases hf : (entB 0 B).find? (fun p => p.1 == (i : Int)) with
  | none => exact .inl rfl
  | some p =>
    obtain ⟨j, hj, e, _⟩ := mem_ent B 0 (x := p.1) (v := p.2) (List.mem_of_find?_eq_some hf)
    exact .inr ⟨j, hj, by show p.2 = (j : Int); rw [e]; simp⟩
end Go.Abs
end
