/- Part of a proof, in few files: L9g L8l L8o L8p L9h M09a G09lW. -/
import Derived.Test.YtojdnnogpffhpaaGreatDoorNOrK22
import Derived.Test.YtojdnnogpffhpaaGreatDoorNOrK21
import Derived.Test.YtojdnnogpffhpaaGreatDoorNOrK18
import Derived.Test.YtojdnnogpffhpaaGreatDoorNOrK19
import Derived.Test.YtojdnnogpffhpaaGreatDoorNOrK14
import Derived.Test.YtojdnnogpffhpaaGreatDoorNOrK15

section
namespace Go.Abs
open Go
open Classical
set_option linter.unusedVariables false
set_option linter.unusedSimpArgs false
set_option linter.unnecessarySimpa false
structure JP (V : Ws) (had : List Int) (out : Bks) : Prop where
  nd : had.Nodup
  rng : ∀ k, k ∈ had → 0 ≤ k ∧ k < V.length
  perm : out.flatten.Perm had
  ne : ∀ l, l ∈ out → l ≠ []
theorem JP.zero (V : Ws) : JP V [] [] := ⟨by simp, by simp, by simp, by simp⟩
theorem JP.step {V : Ws} {had : List Int} {out : Bks} (h : JP V had out) {ws : Ws} {ks : List Int} (hp : plS V had ws = some ks) (hw : 1 ≤ ws.length) : JP V (had ++ ks) (out ++ [sortI ks]) := by
  obtain ⟨a1, a2, a3⟩ := plS_ok ws had ks hp h.nd
  refine ⟨a1, fun k hk => ?_, ?_, fun l hl => ?_⟩
  · rcases List.mem_append.1 hk with hk | hk
    · exact h.rng k hk
    · exact a2 k hk
  · rw [List.flatten_append, List.flatten_cons, List.flatten_nil, List.append_nil]
    exact List.Perm.append h.perm (sortI_perm ks)
  · rcases List.mem_append.1 hl with hl | hl
    · exact h.ne l hl
    · simp at hl; subst hl
      intro e
      have := (sortI_perm ks).length_eq
      rw [e] at this
      simp at this; omega
theorem flat_len : ∀ (B : Bks), (∀ l, l ∈ B → l ≠ []) → B.length ≤ B.flatten.length
  | [], _ => by simp
  | l :: B, h => by
    have h1 := flat_len B fun m hm => h m (by simp [hm])
    have h2 : 1 ≤ l.length := List.length_pos_iff.2 (h l (by simp))
    rw [List.flatten_cons, List.length_append, List.length_cons]; omega
theorem JP.len {V : Ws} {had : List Int} {out : Bks} (h : JP V had out) : had.length ≤ V.length ∧ out.length ≤ V.length := by
  have h1 := nodup_int h.nd h.rng
  have h2 := flat_len out h.ne
  have h3 := h.perm.length_eq
  omega
theorem head_at0 {l : Ws} (h : 0 < l.length) : l.headD [] = l[0] := by cases l with | nil => simp at h | cons a l => rfl
theorem Parse9_loop {V : Ws} (hV : V.length ≤ 12) (L : Ls) (hL : LsOK L) : LoopP (notes_Parse_L1 V L (resN (foldN V [] [] L))) ((0 : Int), [], []) := by
  have hl1 := hL.1
  refine LoopP.natS (σ := List (Int × Int) × Bks) L.length (fun k z => ∃ had, z.1 = entE had ∧ JP V had z.2 ∧ foldN V [] [] L = foldN V had z.2 (L.drop k)) ⟨[], rfl, JP.zero V, by simp⟩ ?_
  rintro X k ⟨e, out⟩ hk ⟨had, e1, hJ, hF⟩ hX
  dsimp only at e1 hJ hF
  subst e1
  unfold notes_Parse_L1
  dsimp only
  obtain ⟨n1, n2⟩ := hJ.len
  refine IfB.dc (fun h => ?_) (fun h => ?_)
  · have hkl : k < L.length := by omega
    obtain ⟨hw, hne⟩ := hL.2 _ (List.getElem_mem hkl)
    rw [List.drop_eq_getElem_cons hkl] at hF
    have h0 : 0 < L[k].2.length := List.length_pos_iff.2 hne
    have hh : L[k].2.headD [] = L[k].2[0] := head_at0 h0
    refine ⟨L[k].1, L[k].2, Idx.nat hkl, _, Idx.nat h0, IfB.nbe (fun hb => ?_) (fun hb => IfB.dc (fun h2 => ?_) (fun h2 => ?_))⟩
    · rw [hF, foldN, if_pos (.inl (by rw [hh]; exact hb))]; rfl
    · rw [hF, foldN, if_pos (.inr (by omega))]; rfl
    · have hn : ¬ (L[k].2.headD [] ≠ bkW ∨ L[k].2.length < 2) := by
        rintro (h | h)
        · rw [hh] at h; exact h hb
        · omega
      rw [foldN, if_neg hn] at hF
      refine ⟨⟨by omega, by omega, by omega⟩, ?_⟩
      have es : sub L[k].2 (1 : Int) (L[k].2.length : Int) = L[k].2.tail := by
        cases hL2 : L[k].2 with
        | nil => exact absurd hL2 hne
        | cons a l => exact sub_tail a l
      have ht : 1 ≤ L[k].2.tail.length := by simp; omega
      have hwl := hw.1
      generalize hws : L[k].2.tail = ws at hF es ht
      have hwsl : ws.length ≤ 100000 := by rw [← hws]; simp; omega
      refine LoopP.natS (σ := List (Int × Int) × List Int) ws.length (fun j z => z.1 = entE (had ++ z.2) ∧ (had ++ z.2).Nodup ∧ (∀ k, k ∈ z.2 → 0 ≤ k ∧ k < V.length) ∧ plS V had ws = (plS V (had ++ z.2) (ws.drop j)).map (z.2 ++ ·)) ⟨by simp, by simpa using hJ.nd, by simp, by simp⟩ ?_
      rintro Y j ⟨e, ks⟩ hj ⟨e1, hnd, hrg, hpl⟩ hY
      dsimp only at e1 hnd hrg hpl
      subst e1
      unfold notes_Parse_L2
      dsimp only
      rw [es]
      have hkl2 : ks.length ≤ V.length := by
        refine nodup_int (List.nodup_append.1 hnd).2.1 hrg
      refine IfB.dc (fun h => ?_) (fun h => ?_)
      · have hjk : j < ws.length := by omega
        rw [List.drop_eq_getElem_cons hjk, plS] at hpl
        refine ⟨_, Idx.nat hjk, _, lines_Index_says V _ (by omega), IfB.dc (fun hneg => ?_) (fun hpos => ?_)⟩
        · rw [if_neg (fun hc => (idxN_neg.1 hneg) hc.1)] at hpl
          rw [hF, hpl]; rfl
        · have hin : ws[j] ∈ V := Decidable.byContradiction fun hn => hpos (idxN_neg.2 hn)
          by_cases hd : idxN V ws[j] ∈ had ++ ks
          · rw [if_neg (fun hc => hc.2 hd)] at hpl
            refine ⟨1, true, true, ⟨entE_in hd, rfl⟩, IfB_true.2 ?_⟩
            rw [hF, hpl]; rfl
          · rw [if_pos ⟨hin, hd⟩] at hpl
            refine ⟨0, false, false, ⟨entE_out hd, rfl⟩, IfB_false.2 ⟨by rw [entE_out hd], by unfold Fits; simp; omega, ?_⟩⟩
            rw [wrap64' (by omega) (by omega)]
            have hi := idxN_at hin
            refine hY _ hjk ⟨by simp [entE], ?_, fun q hq => ?_, ?_⟩
            · dsimp only
              rw [← List.append_assoc, List.nodup_append]
              exact ⟨hnd, by simp, fun a ha b hb => by simp at hb; subst hb; exact fun e => hd (e ▸ ha)⟩
            · dsimp only at hq
              rcases List.mem_append.1 hq with hq | hq
              · exact hrg q hq
              · simp at hq; subst hq; rw [hi.1]; omega
            · dsimp only
              rw [hpl, ← List.append_assoc, Option.map_map]
              congr 1
              funext z
              simp
      · have ej : j = ws.length := by omega
        subst ej
        rw [List.drop_length, plS] at hpl
        simp only [Option.map_some, List.append_nil] at hpl
        rw [hpl] at hF
        obtain ⟨x, hx⟩ := Len_says (n := ks.length) (by omega)
        refine ⟨x, hx, LoopP.once fun Z hZ => ?_⟩
        unfold notes_Parse_L3
        rw [wrap64' (by omega) (by omega)]
        refine IfB.dc (fun _ => ?_) (fun h => by omega)
        refine sort4 (by omega) (by omega) ?_ (by omega)
        exact hX _ hkl ⟨had ++ ks, rfl, hJ.step hpl ht, hF⟩
  · have ek : k = L.length := by omega
    subst ek
    rw [List.drop_length, foldN] at hF
    rw [hF]
    obtain ⟨x, hx⟩ := Len_says (n := out.length) (by omega)
    refine ⟨x, hx, LoopP.once fun Z hZ => ?_⟩
    unfold notes_Parse_L6
    rw [wrap64' (by omega) (by omega)]
    refine IfB.dc (fun _ => ?_) (fun h => by omega)
    refine sort7 (hJ.perm.nodup_iff.2 hJ.nd) hJ.ne (fun k hk => ?_) (by omega)
    have := hJ.rng k (hJ.perm.mem_iff.1 hk)
    omega
theorem Parse9_says {V : Ws} {C : List Fr} {R : List MRow} {s : By} (hm : MayM V C R) (hV : V.length ≤ 12) (hl : s.length ≤ 65536) (hr : RightP s) : notes_Parse V C R s (resN (foldN V [] [] (allL s))) := by
  unfold notes_Parse
  have h1 := model_Right_says V C R
  rw [decide_eq_true hm] at h1
  exact ⟨_, h1, IfB_true.2 ⟨_, _, lines_All_says hl hr, IfB.neI (fun h => absurd rfl h) (fun _ => Parse9_loop hV _ (allLs_ok hl))⟩⟩
def wdsB (V : Ws) (l : List Int) : Ws := bkW :: l.map fun k => V.getD k.toNat []
def printB (V : Ws) (B : Bks) : List Ws := B.map (wdsB V)
theorem name_len {v : By} (h : NameP v) : v.length ≤ 16 := h.2.1
theorem wdsB_wlen {V : Ws} (hV : ∀ v, v ∈ V → v.length ≤ 16) : ∀ (l : List Int), wlen (wdsB V l) ≤ 6 + 17 * l.length := by
  intro l
  unfold wdsB
  have : ∀ l : List Int, wlen (l.map fun k => V.getD k.toNat []) ≤ 17 * l.length := by
    intro l
    induction l with
    | nil => simp [wlen]
    | cons k l ih =>
      have h1 : (V.getD k.toNat []).length ≤ 16 := by
        by_cases h : k.toNat < V.length
        · rw [List.getD_eq_getElem?_getD, List.getElem?_eq_getElem h]; exact hV _ (List.getElem_mem h)
        · rw [List.getD_eq_getElem?_getD, List.getElem?_eq_none (by omega)]; simp
      simp only [List.map_cons, wlen, List.map_cons, List.sum_cons, List.length_cons] at ih ⊢
      omega
  have h2 := this l
  simp only [wlen, List.map_cons, List.sum_cons] at h2 ⊢
  have : bkW.length = 5 := rfl
  omega
theorem Print9_says {V : Ws} {C : List Fr} {R : List MRow} {B : Bks} (hB : FewB B) (hok : okBs V.length B) (hm : MayM V C R) : notes_Print V C R B (linesT (printB V B), 0) := by
  unfold notes_Print
  have hR := Right9_says V C R hB (by have := hm.1; omega)
  rw [decide_eq_true ⟨hok, hm⟩] at hR
  refine ⟨_, hR, IfB_true.2 ?_⟩
  have b1 := hB.1
  have nm : ∀ v, v ∈ V → v.length ≤ 16 := fun v hv => name_len (hm.2.2.2.1.2 v hv)
  have ll : ∀ ws, ws ∈ printB V B → wlen ws + 1 ≤ 200 := fun ws hw => by
    obtain ⟨l, hl, rfl⟩ := List.mem_map.1 hw
    have := wdsB_wlen nm l
    have := hB.2 l hl
    omega
  have tk : ∀ k, k ≤ B.length → (linesT ((printB V B).take k)).length ≤ 2000 := fun k hk => by
    have := linesT_len ((printB V B).take k) 200 fun ws hw => ll ws (List.mem_of_mem_take hw)
    have h2 : ((printB V B).take k).length ≤ 10 := by simp [printB]; omega
    omega
  refine LoopP.nat2 B.length (fun k s => s = linesT ((printB V B).take k)) (by simp [linesT]) ?_
  rintro X k s hk rfl hX
  unfold notes_Print_L1
  dsimp only
  refine IfB.dc (fun h => ?_) (fun h => ?_)
  · have hkl : k < B.length := by omega
    have b2 := hB.2 _ (List.getElem_mem hkl)
    refine ⟨_, Idx.nat hkl, ?_⟩
    refine LoopP.natS B[k].length (fun j ws => ws = bkW :: (B[k].take j).map fun k => V.getD k.toNat []) (by simp; rfl) ?_
    rintro Y j ws hj rfl hY
    unfold notes_Print_L2
    dsimp only
    refine IfB.dc (fun h => ?_) (fun h => ?_)
    · have hjk : j < B[k].length := by omega
      obtain ⟨a1, a2, _⟩ := hok.1.at hkl hjk
      have hlt : B[k][j].toNat < V.length := by omega
      refine ⟨_, Idx.nat hjk, V.getD B[k][j].toNat [], ⟨a1, by rw [List.getD_eq_getElem?_getD, List.getElem?_eq_getElem hlt]; rfl⟩, by unfold Fits; simp; omega, ?_⟩
      rw [wrap64' (by omega) (by omega)]
      refine hY _ hjk ?_
      rw [take_succ hjk, List.map_append]; rfl
    · have ej : j = B[k].length := by omega
      subst ej
      rw [List.take_length]
      have e : (bkW :: B[k].map fun k => V.getD k.toNat []) = wdsB V B[k] := rfl
      have hkp : k < (printB V B).length := by simp [printB]; omega
      have hw := wdsB_wlen nm B[k]
      have hlt := lineT_len (wdsB V B[k])
      have e2 : (printB V B)[k] = wdsB V B[k] := by simp [printB]
      have t1 := tk k hk
      rw [e]
      refine ⟨_, lines_Join_says (by omega), by unfold Fits; simp; omega, by unfold Fits; simp; omega, ?_⟩
      rw [wrap64' (by omega) (by omega)]
      refine hX _ hkl ?_
      rw [take_succ hkp, linesT_app, e2]
      simp [linesT]
  · have ek : k = B.length := by omega
    subst ek
    rw [List.take_of_length_le (by simp [printB])]
end Go.Abs
end

section
namespace Go.Abs
open Go
open Classical
set_option linter.unusedVariables false
set_option linter.unusedSimpArgs false
set_option linter.unnecessarySimpa false
end Go.Abs
end

section
namespace Go.Abs
open Go
open Classical
set_option linter.unusedVariables false
set_option linter.unusedSimpArgs false
set_option linter.unnecessarySimpa false
def Short10 (q : Rat) : Prop := (decT q.num.natAbs).length ≤ 400 ∧ (decT q.den).length ≤ 400
end Go.Abs
end

section
namespace Go.Abs
open Go
open Classical
set_option linter.unusedVariables false
set_option linter.unusedSimpArgs false
set_option linter.unnecessarySimpa false
structure QMay (V : Ws) (C : List Rat) (R : List QRow) : Prop where
  v60 : V.length ≤ 60
  cl : C.length = V.length
  r60 : R.length ≤ 60
  nv : NamesP V
  nr : NamesP (R.map (·.1))
  rows : ∀ r, r ∈ R → r.2.1.length = V.length ∧ -1 ≤ r.2.2.1 ∧ r.2.2.1 ≤ 1
  sc : ∀ q, q ∈ C → Short10 q
  sr : ∀ r, r ∈ R → (∀ q, q ∈ r.2.1 → Short10 q) ∧ Short10 r.2.2.2
theorem name_wd {v : By} (h : NameP v) : wdOK v := by
  refine ⟨fun e => by have := h.1; rw [e] at this; simp at this, fun b hb => ?_⟩
  obtain ⟨i, hi, rfl⟩ := List.mem_iff_getElem.1 hb
  have := h.2.2 i v[i] hi (List.getElem?_eq_getElem hi)
  unfold nmOk at this
  omega
end Go.Abs
end

section
namespace Go.Abs
open Go
open Classical
set_option linter.unusedVariables false
set_option linter.unusedSimpArgs false
set_option linter.unnecessarySimpa false
theorem idxN_nd {V : Ws} (hn : V.Nodup) {k : Int} (h0 : 0 ≤ k) (h1 : k < V.length) : V.getD k.toNat [] ∈ V ∧ idxN V (V.getD k.toNat []) = k := by
  have hk : k.toNat < V.length := by omega
  have e : V.getD k.toNat [] = V[k.toNat] := by rw [List.getD_eq_getElem?_getD, List.getElem?_eq_getElem hk]; rfl
  rw [e]
  have hm := List.getElem_mem hk
  refine ⟨hm, ?_⟩
  rw [(idxN_at hm).1, idx_nodup hk hn]; omega
theorem plS_back {V : Ws} (hn : V.Nodup) : ∀ (l had : List Int), (had ++ l).Nodup → (∀ k, k ∈ l → 0 ≤ k ∧ k < V.length) → plS V had (l.map fun k => V.getD k.toNat []) = some l
  | [], had, _, _ => rfl
  | k :: l, had, hd, hr => by
    obtain ⟨h1, h2⟩ := hr k (by simp)
    obtain ⟨a, b⟩ := idxN_nd hn h1 h2
    have hk : k ∉ had := fun hh => by
      rw [List.nodup_append] at hd
      exact hd.2.2 k hh k (by simp) rfl
    rw [List.map_cons, plS, b, if_pos ⟨a, hk⟩, plS_back hn l (had ++ [k]) (by simpa using hd) (fun q hq => hr q (by simp [hq]))]
    rfl
theorem fold_back {V : Ws} (hn : V.Nodup) : ∀ (P : Bks) (had : List Int) (out : Bks) (n : Int), (had ++ P.flatten).Nodup → (∀ k, k ∈ P.flatten → 0 ≤ k ∧ k < V.length) → (∀ l, l ∈ P → l ≠ []) → foldN V had out (linesN n (P.map (wdsB V))) = .inr (out ++ P.map sortI)
  | [], had, out, n, _, _, _ => by simp [linesN, foldN]
  | l :: P, had, out, n, hd, hr, hne => by
    have h1 : 1 ≤ l.length := List.length_pos_iff.2 (hne l (by simp))
    rw [List.flatten_cons] at hd hr
    rw [← List.append_assoc] at hd
    rw [List.map_cons, linesN, foldN, if_neg]
    · have hp : plS V had (wdsB V l).tail = some l := plS_back hn l had (List.nodup_append.1 hd).1 (fun k hk => hr k (by simp [hk]))
      simp only [hp]
      rw [fold_back hn P _ _ _ hd (fun k hk => hr k (by simp [hk])) (fun m hm => hne m (by simp [hm]))]
      simp
    · rintro (h | h)
      · exact h rfl
      · simp [wdsB] at h; omega
theorem wdsB_ok {V : Ws} (hV : ∀ v, v ∈ V → NameP v) {l : List Int} (hr : ∀ k, k ∈ l → 0 ≤ k ∧ k < V.length) : wdsB V l ≠ [] ∧ ∀ w, w ∈ wdsB V l → wdOK w := by
  refine ⟨by simp [wdsB], fun w hw => ?_⟩
  rcases List.mem_cons.1 hw with rfl | hw
  · exact ⟨by simp [bkW], fun b hb => by simp [bkW] at hb; rcases hb with rfl | rfl | rfl | rfl | rfl <;> decide⟩
  · obtain ⟨k, hk, rfl⟩ := List.mem_map.1 hw
    obtain ⟨h1, h2⟩ := hr k hk
    have hk : k.toNat < V.length := by omega
    rw [List.getD_eq_getElem?_getD, List.getElem?_eq_getElem hk]
    exact name_wd (hV _ (List.getElem_mem hk))
theorem texts_len {V : Ws} (nm : ∀ v, v ∈ V → v.length ≤ 16) {P : Bks} (hP : FewB P) (k : Nat) : (linesT ((P.map (wdsB V)).take k)).length ≤ 2000 := by
  have := linesT_len ((P.map (wdsB V)).take k) 200 fun ws hw => by
    obtain ⟨l, hl, rfl⟩ := List.mem_map.1 (List.mem_of_mem_take hw)
    have := wdsB_wlen nm l
    have := hP.2 l hl
    omega
  have h2 : ((P.map (wdsB V)).take k).length ≤ 10 := by have := hP.1; simp; omega
  omega
theorem parse_back9 {V : Ws} {C : List Fr} {R : List MRow} {B P : Bks} (hm : MayM V C R) (hV : V.length ≤ 12) (hB : okBs V.length B) (hP : FewB P) (hp : (P.map sortI).Perm B) : notes_Parse V C R (linesT (P.map (wdsB V))) (B, 0, 0) := by
  have hne : ∀ l, l ∈ B → l ≠ [] := fun l hl => (hB.2.1 l hl).1
  have fl : P.flatten.Perm B.flatten := by
    have h1 : ∀ P : Bks, P.flatten.Perm (P.map sortI).flatten := by
      intro P
      induction P with
      | nil => exact List.Perm.refl _
      | cons l P ih => rw [List.map_cons, List.flatten_cons, List.flatten_cons]; exact List.Perm.append (sortI_perm l).symm ih
    exact (h1 P).trans hp.flatten
  have hnd : P.flatten.Nodup := fl.nodup_iff.2 hB.1.2
  have hr : ∀ k, k ∈ P.flatten → 0 ≤ k ∧ k < V.length := fun k hk => hB.1.1 k (fl.mem_iff.1 hk)
  have hneP : ∀ l, l ∈ P → l ≠ [] := fun l hl e => by
    have := hne (sortI l) (hp.mem_iff.1 (List.mem_map.2 ⟨l, hl, rfl⟩))
    subst e
    exact this (by simp [sortI])
  have nmP : ∀ v, v ∈ V → NameP v := hm.2.2.2.1.2
  have hw : ∀ ws, ws ∈ P.map (wdsB V) → ws ≠ [] ∧ ∀ w, w ∈ ws → wdOK w := fun ws hw => by
    obtain ⟨l, hl, rfl⟩ := List.mem_map.1 hw
    exact wdsB_ok nmP fun k hk => hr k (List.mem_flatten.2 ⟨l, hl, hk⟩)
  have hl := texts_len (V := V) (fun v hv => name_len (nmP v hv)) hP (P.map (wdsB V)).length
  rw [List.take_length] at hl
  have := Parse9_says (s := linesT (P.map (wdsB V))) hm hV (by omega) (linesT_rightP hw)
  rw [allL_T hw, fold_back hm.2.2.2.1.1 P [] [] 0 (by simpa using hnd) hr hneP] at this
  have e : sortB ([] ++ P.map sortI) = B := by
    rw [List.nil_append]
    have h1 : B.flatten.Nodup := hB.1.2
    refine (sortB_eq (B := P.map sortI) (d := B) ?_ ?_ ?_ hp.symm).symm
    · exact hp.flatten.nodup_iff.2 h1
    · exact fun l hl => hne l (hp.mem_iff.1 hl)
    · have := hB.2.2
      rw [List.pairwise_cons] at this
      have h2 := List.pairwise_map.1 this.2
      exact h2.imp fun h => Int.le_of_lt h
  rw [resN, e] at this
  exact this
def rotB (B : Bks) (k : Nat) : Bks := B.drop k ++ B.take k
theorem rot_perm (B : Bks) (k : Nat) : (rotB B k).Perm B := by
  unfold rotB
  have := List.perm_append_comm (l₁ := B.drop k) (l₂ := B.take k)
  rwa [List.take_append_drop] at this
theorem rot_at {B : Bks} {k i : Nat} (hk : k < B.length) (hi : i < B.length) : (rotB B k)[i]? = B[(i + k) % B.length]? := by
  unfold rotB
  by_cases h : i + k < B.length
  · rw [List.getElem?_append_left (by simp; omega), List.getElem?_drop, Nat.mod_eq_of_lt h, Nat.add_comm]
  · rw [List.getElem?_append_right (by simp; omega), List.length_drop, List.getElem?_take, if_pos (by omega)]
    congr 1
    have : i + k = (i + k - B.length) + B.length := by omega
    rw [this, Nat.add_mod_right, Nat.mod_eq_of_lt (by omega)]; omega
theorem rot_len (B : Bks) {k : Nat} (hk : k < B.length) : (rotB B k).length = B.length := (rot_perm B k).length_eq
theorem line_snoc (a w : By) (ws : Ws) : lineT (a :: (ws ++ [w])) = lineT (a :: ws) ++ (([32] : By) ++ w) := by
  unfold lineT
  rw [Lib.join_cons, Lib.join_cons]
  unfold Lib.joinTail
  simp
theorem law_norder (V : List By) (C : List Fr) (R : List MRow) (B : Bks) (k : Int) : offcutlaw09_NotesOrder V C R B k true := by
  unfold offcutlaw09_NotesOrder
  refine ⟨_, Few8_says V C R, IfB.dc (fun hF => ?_) (fun _ => awk9 rfl)⟩
  refine ⟨_, few9_says B, IfB.dc (fun hB => ?_) (fun _ => awk9 rfl)⟩
  have v8 := hF.1
  refine ⟨_, right9_says V C R hB (by omega), IfB.dc (fun hok => ?_) (fun _ => awk9 rfl)⟩
  obtain ⟨hok, hm⟩ := hok
  refine IfB.dc (fun _ => awk9 rfl) (fun h0 => IfB.dc (fun _ => awk9 rfl) (fun h1 => ?_))
  obtain ⟨r, rfl⟩ : ∃ r : Nat, k = r := ⟨k.toNat, by omega⟩
  have hr : r < B.length := by omega
  have b1 := hB.1
  let P : Bks := (rotB B r).map List.reverse
  have hPl : P.length = B.length := by simp [P, rot_len B hr]
  have hPF : FewB P := ⟨by omega, fun l hl => by
    obtain ⟨m, hm, rfl⟩ := List.mem_map.1 hl
    rw [List.length_reverse]; exact hB.2 m ((rot_perm B r).mem_iff.1 hm)⟩
  have nmP : ∀ v, v ∈ V → NameP v := hm.2.2.2.1.2
  have nl : ∀ v, v ∈ V → v.length ≤ 16 := fun v hv => name_len (nmP v hv)
  have hback := parse_back9 (P := P) hm (by omega) hok hPF (by
    have e : P.map sortI = rotB B r := by
      show ((rotB B r).map List.reverse).map sortI = _
      rw [List.map_map]
      refine (List.map_congr_left (g := id) fun l hl => ?_).trans (List.map_id _)
      have hlB := (rot_perm B r).mem_iff.1 hl
      exact (sortI_eq (l := l.reverse) (d := l) (hok.2.1 l hlB).2 (List.reverse_perm l).symm).symm
    rw [e]; exact rot_perm B r)
  refine LoopP.nat2 B.length (fun i s => s = linesT ((P.map (wdsB V)).take i)) (by simp [linesT]) ?_
  rintro X i s hi rfl hX
  unfold offcutlaw09_NotesOrder_L1
  dsimp only
  have tl := fun i => texts_len (V := V) nl hPF i
  refine IfB.dc (fun h => ?_) (fun h => ?_)
  · have hil : i < B.length := by omega
    have hmod : (i + r) % B.length < B.length := Nat.mod_lt _ (by omega)
    have b2 := hB.2 _ (List.getElem_mem hmod)
    have t1 := tl i
    have eW : IntKind.i64.wrap ((i : Int) + (r : Int)) = ((i + r : Nat) : Int) := by rw [wrap64' (by omega) (by omega)]; omega
    have eM : Int.tmod ((i + r : Nat) : Int) (B.length : Int) = (((i + r) % B.length : Nat) : Int) := by rw [Int.ofNat_tmod]
    have hrot : (rotB B r)[i]? = some B[(i + r) % B.length] := by rw [rot_at hr hil, List.getElem?_eq_getElem hmod]
    have hPi : P[i]? = some B[(i + r) % B.length].reverse := by show ((rotB B r).map List.reverse)[i]? = _; rw [List.getElem?_map, hrot]; rfl
    have hmem := List.getElem_mem hmod
    generalize hl : B[(i + r) % B.length] = l at *
    have c5 : bkW.length = 5 := rfl
    refine ⟨by omega, l, by rw [eW, eM]; exact ⟨by omega, by rw [Int.toNat_natCast, List.getElem?_eq_getElem hmod, hl]⟩, by unfold Fits; show (_ + 5) * 1 ≤ _; omega, ?_⟩
    rw [wrap64' (by omega) (by omega)]
    have hrl : ∀ k, k ∈ l → 0 ≤ k ∧ k < V.length := fun k hk => hok.1.1 k (List.mem_flatten.2 ⟨l, hmem, hk⟩)
    refine LoopP.intro (fun z : By × Int => ∃ m : Nat, m ≤ l.length ∧ z.2 = (l.length : Int) - 1 - m ∧ z.1 = linesT ((P.map (wdsB V)).take i) ++ lineT (bkW :: (l.reverse.take m).map fun k => V.getD k.toNat [])) (fun z => (z.2 + 1).toNat) ⟨0, by omega, by simp, by rw [List.take_zero, List.map_nil, lineT_one]; rfl⟩ ?_
    rintro Y ⟨s, z⟩ ⟨m, hm1, e1, e2⟩ hY
    dsimp only at e1 e2
    subst e1 e2
    unfold offcutlaw09_NotesOrder_L2
    dsimp only
    have lb : ∀ m, (lineT (bkW :: (l.reverse.take m).map fun k => V.getD k.toNat [])).length ≤ 200 := fun m => by
      have h1 := lineT_len (wdsB V (l.reverse.take m))
      have h2 := wdsB_wlen nl (l.reverse.take m)
      have h3 : (l.reverse.take m).length ≤ 10 := by simp; omega
      have : lineT (wdsB V (l.reverse.take m)) = lineT (bkW :: (l.reverse.take m).map fun k => V.getD k.toNat []) := rfl
      rw [← this]; omega
    have l1 := lb m
    refine IfB.dc (fun h => ?_) (fun h => ?_)
    · have hml : m < l.length := by omega
      have ez : ((l.length : Int) - 1 - m) = ((l.length - 1 - m : Nat) : Int) := by omega
      have hz : l.length - 1 - m < l.length := by omega
      have hmr : m < l.reverse.length := by simpa using hml
      have erev : l.reverse[m] = l[l.length - 1 - m] := List.getElem_reverse hmr
      obtain ⟨q1, q2⟩ := hrl _ (List.getElem_mem hz)
      have hq : l[l.length - 1 - m].toNat < V.length := by omega
      have hv := nl _ (List.getElem_mem hq)
      have eV : V.getD l[l.length - 1 - m].toNat [] = V[l[l.length - 1 - m].toNat] := by rw [List.getD_eq_getElem?_getD, List.getElem?_eq_getElem hq]; rfl
      rw [ez]
      refine ⟨_, Idx.nat hz, _, ⟨q1, List.getElem?_eq_getElem hq⟩, by unfold Fits; show (1 + _) * 1 ≤ _; omega, by unfold Fits; rw [List.length_append, List.length_append]; show (_ + _ + (1 + _)) * 1 ≤ _; omega, ?_⟩
      rw [wrap64' (by omega) (by omega)]
      refine hY _ ⟨m + 1, by omega, by dsimp only; omega, ?_⟩ (by dsimp only; omega)
      dsimp only
      rw [take_succ hmr, List.map_append, erev, List.map_cons, List.map_nil, line_snoc, eV]
      simp only [List.append_assoc]
    · have em : m = l.length := by omega
      subst em
      have et : l.reverse.take l.length = l.reverse := List.take_of_length_le (by simp)
      have l2 := lb l.length
      rw [et] at l2 ⊢
      refine ⟨by unfold Fits; rw [List.length_append]; show (_ + _ + 1) * 1 ≤ _; omega, ?_⟩
      rw [wrap64' (by omega) (by omega)]
      refine hX _ hil ?_
      have hPil : i < (P.map (wdsB V)).length := by simp; omega
      have eP : (P.map (wdsB V))[i] = wdsB V l.reverse := by
        have hPi2 : i < P.length := by omega
        rw [List.getElem?_eq_getElem hPi2] at hPi
        simp only [Option.some.injEq] at hPi
        rw [List.getElem_map, hPi]
      rw [take_succ hPil, linesT_app, eP]
      have : linesT [wdsB V l.reverse] = lineT (bkW :: l.reverse.map fun k => V.getD k.toNat []) ++ [10] := by show lineT (wdsB V l.reverse) ++ 10 :: linesT [] = _; rfl
      rw [this, List.append_assoc]
  · have ei : i = B.length := by omega
    subst ei
    rw [List.take_of_length_le (by simp; omega)]
    have s2 : offcutlaw09_same B B true := by have := same9_says (B := B) hB; rwa [decide_eq_true rfl] at this
    exact ⟨_, _, _, hback, IfB.eqI (fun _ => IfB.eqI (fun _ => ⟨_, s2, IfB_true.2 (awk9 rfl)⟩) (fun h => absurd rfl h)) (fun h => absurd rfl h)⟩
end Go.Abs
end

section
namespace Go.Abs
open Go.RowKit Go.Proofs
set_option maxRecDepth 100000
set_option linter.unusedVariables false
set_option linter.unusedSimpArgs false
def V9 : Ws := [[120], [121], [122]]
def q9 : Fr := (false, [1], [1])
def C9 : List Fr := [q9, q9, q9]
def B9 : Bks := [[0, 1], [2]]
def P9 : Bks := [[2], [1, 0]]
def t9 : By := [98, 108, 111, 99, 107, 32, 122, 10, 98, 108, 111, 99, 107, 32, 121, 32, 120, 10]
def u9 : By := [98, 108, 111, 99, 107, 32, 120, 32, 121, 10, 98, 108, 111, 99, 107, 32, 122, 10]
theorem name1 {c : UInt8} (h1 : 97 ≤ c.toNat) (h2 : c.toNat ≤ 122) : NameP [c] := ⟨by simp, by simp, fun i b hi hb => by
  have : i = 0 := by simpa using hi
  subst this
  simp at hb; subst hb
  exact .inl ⟨h1, h2⟩⟩
theorem may9 : MayM V9 C9 [] := by
  refine ⟨by decide, by decide, by decide, ⟨by decide, fun v hv => ?_⟩, ⟨by decide, fun v hv => by simp at hv⟩, fun r hr => by simp at hr⟩
  simp [V9] at hv
  rcases hv with rfl | rfl | rfl <;> exact name1 (by decide) (by decide)
theorem okB9 : okBs V9.length B9 := by
  refine ⟨⟨by decide, by decide⟩, fun l hl => ?_, by decide⟩
  simp [B9] at hl
  rcases hl with rfl | rfl <;> decide
theorem perm9 : (P9.map sortI).Perm B9 := by
  have h1 : sortI [2] = [2] := (sortI_eq (l := [2]) (d := [2]) (by simp [SrtK]) (List.Perm.refl _)).symm
  have h2 : sortI [1, 0] = [0, 1] := (sortI_eq (l := [1, 0]) (d := [0, 1]) (by simp [SrtK]) (List.Perm.swap _ _ _)).symm
  show [sortI [2], sortI [1, 0]].Perm [[0, 1], [2]]
  rw [h1, h2]
  exact List.Perm.swap _ _ _
theorem fewP9 : FewB P9 := ⟨by decide, fun l hl => by
  simp [P9] at hl
  rcases hl with rfl | rfl <;> decide⟩
theorem fewB9 : FewB B9 := ⟨by decide, fun l hl => by
  simp [B9] at hl
  rcases hl with rfl | rfl <;> decide⟩
theorem parse9 : notes_Parse V9 C9 [] t9 (B9, 0, 0) := parse_back9 may9 (by decide) okB9 fewP9 perm9
theorem print9 : notes_Print V9 C9 [] B9 (u9, 0) := Print9_says fewB9 okB9 may9
theorem home9 : notes_Home V9 C9 [] B9 [0, 0, 1] := by
  have h := Home9_says V9 C9 [] fewB9 (by decide)
  rw [if_pos ⟨okB9, may9⟩] at h
  exact h
theorem int9 : rat_Int 1 q9 := by
  have h := sg1 false
  unfold sgF at h
  rw [words_one (by omega) (by omega)] at h
  exact h
def m9 : AV := .agg [.pd (.sl (V9.map elS)), .pd (.sl (C9.map elQ1)), .pd (.sl [])]
def n9 : AV := .agg [.pd (.sl (B9.map elQ3))]
def tab9 : List (FuncId × List AV × AV) := [(43, [.pd (.int .i64 1)], .agg [.pd (.bool false), .pd (.sl [.int .u32 1]), .pd (.sl [.int .u32 1])]), (10, [m9, .pd (.str t9)], .tup [n9, .pd (.int .i64 0), .pd (.int .i64 0)]), (22, [m9, n9], .tup [.pd (.str u9), .pd (.int .i64 0)]), (19, [m9, n9], .pd (.sl [.int .i64 0, .int .i64 0, .int .i64 1]))]
theorem tab9_ok (m : Tp) : TabOK Tryz.prog (gtT m) tab9 :=
  .cons (rat_Int_ok m 1 int9) (hasT 43 (by kernel_rfl)) rfl (.cons (notes_Parse_ok m V9 C9 [] t9 parse9) (hasT 10 (by kernel_rfl)) rfl (.cons (notes_Print_ok m V9 C9 [] B9 print9) (hasT 22 (by kernel_rfl)) rfl (.cons (notes_Home_ok m V9 C9 [] B9 home9) (hasT 19 (by kernel_rfl)) rfl .nil)))
def orc0 (g : FuncId) (args : List AV) (M : Mem) : Option (AV × Mem × Bool) := none
theorem orc0_ok (m : Tp) (f : FuncId) (args : List AV) (M : Mem) (z : AV × Mem × Bool) (h : orc0 f args M = some z) : CallOK Tryz.prog (gtT m) f args M z := by cases h
theorem awake_runs09 (m : Tp) : saysTrue Tryz.prog (gtT m) (orcT tab9 orc0) (fun _ => false) 400 9 [] = true := by kernel_rfl
theorem offcutlaw09_awake_ok (m : Tp) {r : Bool} (h : offcutlaw09_awake r) : ASpec Tryz.prog (gtT m) 9 [] (· = .pd (.bool r)) := by
  obtain rfl := h
  exact saysTrue_ok mixedT namesT (orcT_ok (tab9_ok m) (orc0_ok m)) (awake_runs09 m)
end Go.Abs
end

section
namespace Go.Abs
open Go.Proofs
set_option maxHeartbeats 4000000
set_option maxRecDepth 20000
set_option linter.unusedVariables false
set_option linter.unusedSimpArgs false
set_option linter.unnecessarySimpa false
theorem offcutlaw09_NotesOrder_ok (m : Tp) (p0 : List (List UInt8)) (p1 : List (Bool × (List Int) × (List Int))) (p2 : List ((List UInt8) × (List (Bool × (List Int) × (List Int))) × Int × Bool × (List Int) × (List Int))) (p3 : List (List Int)) (p4 : Int) {r : Bool} (h : offcutlaw09_NotesOrder p0 p1 p2 p3 p4 r) : ASpec Tryz.prog (gtT m) 4 [.agg [.pd (.sl (p0.map elS)), .pd (.sl (p1.map elQ1)), .pd (.sl (p2.map elQ0))], .agg [.pd (.sl (p3.map elQ3))], .pd (.int .i64 p4)] (· = .pd (.bool r)) := by
 refine ASpec_tree Tryz.f4 mixedT (askZ [9, 10, 11] false [29] [26]) (by kernel_rfl) ?_
 unfold offcutlaw09_NotesOrder at h
 let o1 : Ob := .cells [.pd (.sl (p0.map elS)), .pd (.sl (p1.map elQ1)), .pd (.sl (p2.map elQ0))] 1 0 false
 let o2 : Ob := .cells [.pd (.sl (p3.map elQ3))] 1 0 false
 refine QK 3 ?_
 obtain ⟨x1, hx2, h⟩ := h
 refine QV (offcutlaw08_Few_ok m _ _ _ hx2) ?_
 cases x1
 ·replace h := h.f rfl
  obtain ⟨x40, hx41, h⟩ := h
  refine QV (offcutlaw09_awake_ok m  hx41) ?_
  cases x40
  ·replace h := h.f rfl
   subst r; exact QE .ret
  replace h := h.t rfl
  subst r; exact QE .ret
 replace h := h.t rfl
 refine QK 1 ?_
 obtain ⟨x3, hx4, h⟩ := h
 refine QV (offcutlaw09_few_ok m _ hx4) ?_
 cases x3
 ·replace h := h.f rfl
  obtain ⟨x38, hx39, h⟩ := h
  refine QV (offcutlaw09_awake_ok m  hx39) ?_
  cases x38
  ·replace h := h.f rfl
   subst r; exact QE .ret
  replace h := h.t rfl
  subst r; exact QE .ret
 replace h := h.t rfl
 refine QK 2 ?_
 obtain ⟨x5, hx6, h⟩ := h
 refine QV (offcutlaw09_right_ok m _ _ _ _ hx6) ?_
 cases x5
 ·replace h := h.f rfl
  obtain ⟨x36, hx37, h⟩ := h
  refine QV (offcutlaw09_awake_ok m  hx37) ?_
  cases x36
  ·replace h := h.f rfl
   subst r; exact QE .ret
  replace h := h.t rfl
  subst r; exact QE .ret
 replace h := h.t rfl
 refine QBp h (fun hp7 h => ?_) (fun hp7 h => ?_)
 ·obtain ⟨x8, hx9, h⟩ := h
  refine QV (offcutlaw09_awake_ok m  hx9) ?_
  cases x8
  ·replace h := h.f rfl
   subst r; exact QE .ret
  replace h := h.t rfl
  subst r; exact QE .ret
 refine QK 2 ?_
 refine QL [o1, o2] 29 42 elQ3 p3 ?_
 refine QBp h (fun hp10 h => ?_) (fun hp10 h => ?_)
 ·obtain ⟨x11, hx12, h⟩ := h
  refine QV (offcutlaw09_awake_ok m  hx12) ?_
  cases x11
  ·replace h := h.f rfl
   subst r; exact QE .ret
  replace h := h.t rfl
  subst r; exact QE .ret
 refine QK 2 ?_
 refine QL [o1, o2] 29 42 elQ3 p3 ?_
 refine H_loopP (F := offcutlaw09_NotesOrder_L1 p0 p1 p2 p3 p4 r) (s0 := (([] : List UInt8), (0 : Int))) h () 103 2
  (fun (s100, s101) () => [(2, .pd (.int .i64 p4)), (3, .ptr 0 0 0), (4, .ptr 1 0 0), (7, .pd (.str s100)), (42, .pd (.int .i64 (p3.length : Int))), (43, .pd (.int .i64 s101))])
  (fun (s100, s101) () => [o1, o2]) (fun (s100, s101) () => True) trivial [] mixedT (askZ [9, 10, 11] false [29] [26])
  (by kernel_rfl) (by kernel_rfl) (by kernel_rfl) (by kernel_rfl) (by kernel_rfl) (fun _ _ => rfl) ?_
 rintro X1 ⟨s100, s101⟩ ⟨⟩ - h
 dsimp only [offcutlaw09_NotesOrder_L1] at h
 refine QBp h (fun hp13 h => ?_) (fun hp13 h => ?_)
 ·refine QD ?_
  refine QK 4 ?_
  refine QL [o1, o2] 29 42 elQ3 p3 ?_
  obtain ⟨hx14, h⟩ := h
  refine QZ (ask_remK (P := Tryz.prog) (M := [o1, o2]) (t := 3) (k := .i64) (a := (IntKind.i64.wrap (s101 + p4))) (b := (p3.length : Int)) hx14) ?_
  obtain ⟨x15, hx16, h⟩ := h
  refine QI [o1, o2] 29 42 .i64 okQ3 leQ3 hx16 ?_
  refine QK 1 ?_
  obtain ⟨hx17, h⟩ := h
  refine QZ (ask_cat (P := Tryz.prog) (M := [o1, o2]) (t := 9) hx17) ?_
  refine QL [o1, o2] 42 3 elI64 x15 ?_
  refine H_loopP (F := offcutlaw09_NotesOrder_L2 p0 s101 X1 x15) (s0 := ((s100 ++ ([98, 108, 111, 99, 107] : List UInt8)), (IntKind.i64.wrap ((x15.length : Int) - 1)))) h () 103 2
   (fun (s200, s201) () => [(2, .pd (.int .i64 p4)), (3, .ptr 0 0 0), (4, .ptr 1 0 0), (7, .pd (.str s200)), (9, .pd (.sl (x15.map elI64))), (10, .pd (.int .i64 s201)), (42, .pd (.int .i64 (p3.length : Int))), (43, .pd (.int .i64 s101))])
   (fun (s200, s201) () => [o1, o2]) (fun (s200, s201) () => True) trivial [] mixedT (askZ [9, 10, 11] false [29] [26])
   (by kernel_rfl) (by kernel_rfl) (by kernel_rfl) (by kernel_rfl) (by kernel_rfl) (fun _ _ => rfl) ?_
  rintro X2 ⟨s200, s201⟩ ⟨⟩ - h
  dsimp only [offcutlaw09_NotesOrder_L2] at h
  refine QBp h (fun hp18 h => ?_) (fun hp18 h => ?_)
  ·refine QD ?_
   refine QK 2 ?_
   obtain ⟨x19, hx20, h⟩ := h
   refine QI [o1, o2] 42 3 .i64 okI64 leI64 hx20 ?_
   refine QK 1 ?_
   obtain ⟨x21, hx22, h⟩ := h
   refine QI [o1, o2] 22 9 .i64 okS leS hx22 ?_
   refine QK 1 ?_
   obtain ⟨hx23, h⟩ := h
   refine QZ (ask_cat (P := Tryz.prog) (M := [o1, o2]) (t := 9) hx23) ?_
   obtain ⟨hx24, h⟩ := h
   refine QZ (ask_cat (P := Tryz.prog) (M := [o1, o2]) (t := 9) hx24) ?_
   exact QG () h trivial
  refine QR (.exit 2) ?_
  obtain ⟨hx25, h⟩ := h
  refine QZ (ask_cat (P := Tryz.prog) (M := [o1, o2]) (t := 9) hx25) ?_
  exact QG () h trivial
 refine QR (.exit 0) ?_
 refine QK 1 ?_
 obtain ⟨x26, x27, x28, hx29, h⟩ := h
 refine QV (notes_Parse_ok m _ _ _ _ hx29) ?_
 refine QK 1 ?_
 refine QBp h (fun hp30 h => ?_) (fun hp30 h => ?_)
 ·refine QBp h (fun hp31 h => ?_) (fun hp31 h => ?_)
  ·refine QK 4 ?_
   obtain ⟨x32, hx33, h⟩ := h
   refine QV (offcutlaw09_same_ok m _ _ hx33) ?_
   cases x32
   ·replace h := h.f rfl
    subst r; exact QE .ret
   replace h := h.t rfl
   obtain ⟨x34, hx35, h⟩ := h
   refine QV (offcutlaw09_awake_ok m  hx35) ?_
   cases x34
   ·replace h := h.f rfl
    subst r; exact QE .ret
   replace h := h.t rfl
   subst r; exact QE .ret
  subst r; exact QE .ret
 subst r; exact QE .ret
end Go.Abs
end
