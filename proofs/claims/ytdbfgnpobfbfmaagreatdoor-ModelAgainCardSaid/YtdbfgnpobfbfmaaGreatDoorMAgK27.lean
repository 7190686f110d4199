/- Part of a proof, in few files: L8l L8o L8p LQ2 LQ3 LQ4 LM1b L8q L8r. -/
import Derived.Test.YtdbfgnpobfbfmaaGreatDoorMAgK26
import Derived.Test.YtdbfgnpobfbfmaaGreatDoorMAgK25
import Derived.Test.YtdbfgnpobfbfmaaGreatDoorMAgK15
import Derived.Test.YtdbfgnpobfbfmaaGreatDoorMAgK16

section
namespace Go.Abs
open Go
open Classical
set_option linter.unusedVariables false
set_option linter.unusedSimpArgs false
set_option linter.unnecessarySimpa false
theorem awk8 (A B : Prop) (h : A) : ∃ x : Bool, offcutlaw08_awake x ∧ IfB x A B := ⟨true, rfl, IfB_true.2 h⟩
def lastV (s : By) (ts : List Tm) (w : Fr) : Fr := ts.foldl (fun w t => if t.2.2 = s then tmV t else w) w
theorem idx_inj {l : Ws} {a b : By} (ha : a ∈ l) (hb : b ∈ l) (h : l.idxOf a = l.idxOf b) : a = b := by
  have h1 : l[l.idxOf a]'(List.idxOf_lt_length_of_mem ha) = a := List.getElem_idxOf _
  have h2 : l[l.idxOf b]'(List.idxOf_lt_length_of_mem hb) = b := List.getElem_idxOf _
  rw [← h1, ← h2]; simp only [h]
theorem denseW_at {vars : Ws} {s : By} (hs : s ∈ vars) : ∀ (ts : List Tm) (d : List Fr) (w : Fr), (∀ t, t ∈ ts → t.2.2 ∈ vars) → d.length = vars.length → d[vars.idxOf s]? = some w → (denseW vars (ts.map tmM) d)[vars.idxOf s]? = some (lastV s ts w)
  | [], d, w, hm, hl, hd => hd
  | t :: ts, d, w, hm, hl, hd => by
    have ht := hm t (by simp)
    show (denseW vars (ts.map tmM) (d.set (vars.idxOf t.2.2) (tmV t)))[vars.idxOf s]? = some (lastV s ts (if t.2.2 = s then tmV t else w))
    refine denseW_at hs ts _ _ (fun t ht => hm t (by simp [ht])) (by simp [hl]) ?_
    rw [List.getElem?_set]
    have hlt : vars.idxOf s < d.length := by rw [hl]; exact List.idxOf_lt_length_of_mem hs
    by_cases he : t.2.2 = s
    · rw [if_pos (by rw [he]), if_pos (by rw [he]; exact hlt), if_pos he]
    · rw [if_neg (fun e => he (idx_inj ht hs e)), if_neg he, hd]
theorem denseF_at {vars : Ws} {ts : List Tm} {k : Nat} (hk : k < vars.length) (hn : vars.Nodup) (hm : ∀ t, t ∈ ts → t.2.2 ∈ vars) : (denseF vars (ts.map tmM))[k]? = some (lastV vars[k] ts zeroF) := by
  have := denseW_at (s := vars[k]) (List.getElem_mem hk) ts (List.replicate vars.length zeroF) zeroF hm (by simp) (by rw [idx_nodup hk hn]; simp [hk])
  rwa [idx_nodup hk hn] at this
theorem lastV_ok (s : By) : ∀ (ts : List Tm) (w : Fr), okX w 10003 → okX (lastV s ts w) 10003
  | [], w, h => h
  | t :: ts, w, h => by
    show okX (lastV s ts (if t.2.2 = s then tmV t else w)) 10003
    refine lastV_ok s ts _ ?_
    split
    · exact tmV_ok t
    · exact h
def numsOK (ts : List Tm) : Prop := ∀ t, t ∈ ts → ∀ w, t.2.1 = some w → isN w ∧ w.length ≤ 1000000
theorem stepM_err {k : Nat} {st : St8} {ws : Ws} {e : Int} (h : stepM k st ws = .inl e) : e ≠ 0 := by
  unfold stepM at h
  split at h
  · cases h; decide
  · split at h
    · cases h; decide
    · split at h
      · cases h; decide
      · cases h
theorem foldM_err : ∀ (l : Ls) (k : Nat) (st : St8) {a e : Int}, foldM k st l = .inl (a, e) → e ≠ 0
  | [], k, st, a, e, h => by cases h
  | p :: r, k, st, a, e, h => by
    cases he : stepM k st p.2 with
    | inl e' => rw [foldM_inl he] at h; cases h; exact stepM_err he
    | inr st' => rw [foldM_inr he] at h; exact foldM_err r _ _ h
theorem foldM_inv : ∀ (l : Ls) (k : Nat) (st st' : St8), InvS k st → foldM k st l = .inr st' → InvS (k + l.length) st'
  | [], k, st, st', hi, h => by cases h; exact hi
  | p :: r, k, st, st', hi, h => by
    cases he : stepM k st p.2 with
    | inl e' => rw [foldM_inl he] at h; cases h
    | inr st1 =>
      rw [foldM_inr he] at h
      have := foldM_inv r (k + 1) st1 st' (hi.step he) h
      rwa [List.length_cons, Nat.add_comm r.length 1, ← Nat.add_assoc]
theorem foldM_nums {l : Ls} (hl : LsOK l) : ∀ (r : Ls) (k : Nat) (st st' : St8), (∀ x, x ∈ r → x ∈ l) → (∀ x, x ∈ st.2 → numsOK x.2.1 ∧ x.2.2.2.length ≤ 1000000) → foldM k st r = .inr st' → ∀ x, x ∈ st'.2 → numsOK x.2.1 ∧ x.2.2.2.length ≤ 1000000
  | [], k, st, st', hr, hs, h => by cases h; exact hs
  | p :: r, k, st, st', hr, hs, h => by
    cases he : stepM k st p.2 with
    | inl e' => rw [foldM_inl he] at h; cases h
    | inr st1 =>
      rw [foldM_inr he] at h
      refine foldM_nums hl r (k + 1) st1 st' (fun x hx => hr x (by simp [hx])) ?_ h
      unfold stepM at he
      split at he
      · cases he
      · rename_i x hx
        split at he
        · cases he
        · split at he
          · cases he
          · cases he
            intro y hy
            rcases List.mem_append.1 hy with hy | hy
            · exact hs y hy
            · simp at hy; subst hy
              have hw := (hl.2 p (hr _ (by simp))).1.2
              unfold lineS at hx
              split at hx
              · refine ⟨fun t ht w hw' => ?_, ?_⟩
                · obtain ⟨a, b⟩ := ((firstS_ok hx).names t ht).2 w hw'
                  exact ⟨a, hw w b⟩
                · rw [(firstS_shape hx).2.2]; simp
              · refine ⟨fun t ht w hw' => ?_, hw _ (rowS_ok hx).2.mem⟩
                obtain ⟨a, b⟩ := ((rowS_ok hx).1.names t ht).2 w hw'
                exact ⟨a, hw w b⟩
theorem mayM_parsed {k : Nat} {st : St8} (h : InvS k st) (hk : 1 ≤ k) : MayM st.1 (denseF st.1 (costT st)) (rowsD st) := by
  have hl := h.len
  have h61 := h.r61
  refine ⟨h.v60, denseF_len _ _, by simp [rowsD]; omega, ⟨h.nd, h.nm⟩, ⟨?_, ?_⟩, ?_⟩
  · have e : (rowsD st).map (·.1) = (st.2.drop 1).map (·.1) := by unfold rowsD; rw [List.map_map]; rfl
    rw [e]; exact h.rows
  · intro v hv
    simp only [rowsD, rowRec, List.map_map, List.mem_map, Function.comp] at hv
    obtain ⟨x, hx, rfl⟩ := hv
    exact (h.rok x hx).1
  · intro r hr
    obtain ⟨x, hx, rfl⟩ := List.mem_map.1 hr
    exact ⟨denseF_len _ _, (h.rok x hx).2.1.1, (h.rok x hx).2.1.2⟩
end Go.Abs
end

section
namespace Go.Abs
open Go
open Classical
set_option linter.unusedVariables false
set_option linter.unusedSimpArgs false
set_option linter.unnecessarySimpa false
def Short10 (q : Rat) : Prop := (decT q.num.natAbs).length ≤ 400 ∧ (decT q.den).length ≤ 400
theorem num_lt (q : Rat) : q.num < 0 ↔ q < 0 := by
  have := Rat.num_nonneg (q := q)
  constructor
  · intro h; exact Rat.not_le.1 fun h' => by have := this.2 h'; omega
  · intro h; rcases Int.lt_or_le q.num 0 with h1 | h1
    · exact h1
    · exact absurd (this.1 h1) (Rat.not_le.2 h)
theorem Short10.neg {q : Rat} (h : Short10 q) : Short10 (-q) := by
  unfold Short10 at *
  rw [Rat.neg_num, Rat.neg_den, Int.natAbs_neg]; exact h
theorem ratR_txtR {q : Rat} (h : Short10 q) : ratR (txtR q) = (decide (q.num < 0), words q.num.natAbs, words q.den, 0) := by
  have hi : iV (decide (q.num < 0)) q.num.natAbs = q.num := by
    unfold iV
    by_cases h : q.num < 0
    · rw [decide_eq_true h]; simp; omega
    · rw [decide_eq_false h]; simp; omega
  have := ratR_txt (p := decide (q.num < 0)) (n := q.num.natAbs) (d := q.den) h.1 h.2 (fun e => by have := of_decide_eq_true e; omega) q.reduced (Nat.pos_of_ne_zero q.den_nz)
  rw [hi] at this
  exact this
theorem isN_txtR {q : Rat} (h : Short10 q) : isN (txtR q) := by unfold isN; rw [ratR_txtR h]
theorem qv_numOf {q : Rat} (h : Short10 q) : qv (numOf (txtR q)) = q := by
  unfold numOf
  rw [ratR_txtR h]
  unfold qv
  dsimp only
  rw [val_words, val_words, den1_self (Nat.pos_of_ne_zero q.den_nz)]
  have hi : iV (decide (q.num < 0)) q.num.natAbs = q.num := by
    unfold iV
    by_cases h : q.num < 0
    · rw [decide_eq_true h]; simp; omega
    · rw [decide_eq_false h]; simp; omega
  rw [hi, Rat.num_divInt_den]
theorem txtR_no45 {q : Rat} (h : ¬ q < 0) : (45 : UInt8) ∉ txtR q := by
  have hz : ¬ q.num < 0 := fun e => h ((num_lt q).1 e)
  have hd : ∀ n, (45 : UInt8) ∉ decT n := fun n hm => by have := decT_dg n _ hm; unfold dg at this; revert this; decide
  unfold txtR rtxt wtxt
  rw [if_neg hz]
  split
  · exact hd _
  · intro hm
    rcases List.mem_append.1 hm with hm | hm
    · rcases List.mem_append.1 hm with hm | hm
      · exact hd _ hm
      · revert hm; decide
    · exact hd _ hm
theorem numU_txtR {q : Rat} (h : Short10 q) (h0 : ¬ q < 0) : numU (txtR q) = true := by rw [numU_isN' (txtR_no45 h0)]; exact decide_eq_true (isN_txtR h)
theorem neg_nonneg {q : Rat} (h : q < 0) : ¬ -q < 0 := by
  rw [← num_lt, Rat.neg_num]
  have := (num_lt q).2 h
  omega
def absQ (q : Rat) : Rat := if q < 0 then -q else q
def termQ (q : Rat) (v : By) : Tm := (decide (q < 0), some (txtR (absQ q)), v)
def termsQ (all : Bool) : List Rat → Ws → List Tm
  | q :: l, v :: V => if all = false ∧ q = 0 then termsQ all l V else termQ q v :: termsQ all l V
  | _, _ => []
theorem step_back {first : Bool} {q : Rat} {v : By} {rest : Ws} (hv : NameP v) (hs : Short10 q) : stepS first (termWq first q v ++ rest) = some (termQ q v, rest) := by
  have hn := (nameB_iff v).2 hv
  unfold termWq termQ absQ
  by_cases h : q < 0
  · rw [if_pos h, if_pos h, decide_eq_true h]
    simp [stepS, signS, nameS, numS, numU_txtR hs.neg (neg_nonneg h), hn]
  · rw [if_neg h, if_neg h, decide_eq_false h]
    have h45 := txtR_no45 h
    have hu := numU_txtR hs h
    have hne : txtR q ≠ [45] := fun e => by rw [e] at h45; simp at h45
    cases first with
    | true => simp [stepS, signS, nameS, numS, hu, hn, hne]
    | false => simp [stepS, signS, nameS, numS, hu, hn]
theorem sumS_back : ∀ (all first : Bool) (l : List Rat) (V : Ws), (∀ v, v ∈ V → NameP v) → (∀ q, q ∈ l → Short10 q) → (first = true → sumGo all true l V ≠ []) → sumS first (sumGo all first l V) = some (termsQ all l V)
  | all, first, q :: l, v :: V, hV, hl, hf => by
    by_cases hc : all = false ∧ q = 0
    · have e1 : sumGo all first (q :: l) (v :: V) = sumGo all first l V := by conv => lhs; unfold sumGo
                                                                              exact if_pos hc
      have e2 : termsQ all (q :: l) (v :: V) = termsQ all l V := by conv => lhs; unfold termsQ
                                                                    exact if_pos hc
      rw [e1, e2]
      refine sumS_back all first l V (fun x hx => hV x (by simp [hx])) (fun x hx => hl x (by simp [hx])) (fun h => ?_)
      have := hf h
      subst h
      rwa [e1] at this
    · have e1 : sumGo all first (q :: l) (v :: V) = termWq first q v ++ sumGo all false l V := by conv => lhs; unfold sumGo
                                                                                                  exact if_neg hc
      have e2 : termsQ all (q :: l) (v :: V) = termQ q v :: termsQ all l V := by conv => lhs; unfold termsQ
                                                                                 exact if_neg hc
      rw [e1, e2, sumS_step (.inr (fun e => termWq_ne _ _ _ (List.append_eq_nil_iff.1 e).1)), step_back (hV v (by simp)) (hl q (by simp))]
      have := sumS_back all false l V (fun x hx => hV x (by simp [hx])) (fun x hx => hl x (by simp [hx])) (fun h => by cases h)
      show (sumS false (sumGo all false l V)).map (termQ q v :: ·) = _
      rw [this]; rfl
  | all, first, [], V, hV, hl, hf => by
    cases first with
    | true => exact absurd (by simp [sumGo]) (hf rfl)
    | false => simp [sumGo, termsQ, sumS_nil]
  | all, first, q :: l, [], hV, hl, hf => by
    cases first with
    | true => exact absurd (by simp [sumGo]) (hf rfl)
    | false => simp [sumGo, termsQ, sumS_nil]
theorem go_nil : ∀ (all : Bool) (l : List Rat) (V : Ws), sumGo all true l V = [] → termsQ all l V = []
  | all, q :: l, v :: V, h => by
    unfold sumGo at h
    unfold termsQ
    split at h
    · rename_i hc; rw [if_pos hc]; exact go_nil all l V h
    · exact absurd (List.append_eq_nil_iff.1 h).1 (termWq_ne _ _ _)
  | _, [], _, _ => by simp [termsQ]
  | _, _ :: _, [], _ => by simp [termsQ]
theorem go_two : ∀ (all : Bool) (l : List Rat) (V : Ws), sumGo all true l V ≠ [] → 2 ≤ (sumGo all true l V).length
  | all, q :: l, v :: V, h => by
    unfold sumGo at h ⊢
    split at h
    · rename_i hc; rw [if_pos hc]; exact go_two all l V h
    · rename_i hc
      rw [if_neg hc, List.length_append]
      have : 2 ≤ (termWq true q v).length := by unfold termWq; split <;> simp
      omega
  | _, [], _, h => absurd (by simp [sumGo]) h
  | _, _ :: _, [], h => absurd (by simp [sumGo]) h
theorem sumW_back {all : Bool} {l : List Rat} {V : Ws} (hV : ∀ v, v ∈ V → NameP v) (hl : ∀ q, q ∈ l → Short10 q) : sumW (sumTW all V l) = some (termsQ all l V) := by
  unfold sumTW
  by_cases h : sumGo all true l V = []
  · rw [if_pos h, go_nil all l V h]; unfold sumW; rw [if_pos rfl]
  · rw [if_neg h]
    unfold sumW
    rw [if_neg (fun e => by have := go_two all l V h; rw [e] at this; simp at this)]
    exact sumS_back all true l V hV hl (fun _ => h)
theorem names_all : ∀ (l : List Rat) (V : Ws), l.length = V.length → nmsT (termsQ true l V) = V
  | q :: l, v :: V, h => by
    have e2 : termsQ true (q :: l) (v :: V) = termQ q v :: termsQ true l V := by conv => lhs; unfold termsQ
                                                                                 exact if_neg (by simp)
    rw [e2]
    show v :: nmsT (termsQ true l V) = _
    rw [names_all l V (by simpa using h)]
  | [], [], _ => by simp [termsQ, nmsT]
  | [], _ :: _, h => by simp at h
  | _ :: _, [], h => by simp at h
theorem names_sub : ∀ (all : Bool) (l : List Rat) (V : Ws), List.Sublist (nmsT (termsQ all l V)) V
  | all, q :: l, v :: V => by
    unfold termsQ
    split
    · exact (names_sub all l V).cons v
    · exact (names_sub all l V).cons_cons v
  | _, [], V => by simp [termsQ, nmsT]
  | _, _ :: _, [] => by simp [termsQ, nmsT]
theorem qv_sg (neg : Bool) : qv (sgF neg) = if neg then -1 else 1 := by
  unfold qv sgF
  dsimp only
  rw [val_words, show den1 1 = 1 from rfl]
  cases neg with
  | true => show Rat.divInt (-1) 1 = -1; rfl
  | false => show Rat.divInt 1 1 = 1; rfl
theorem qv_term {q : Rat} (h : Short10 q) (v : By) : qv (tmV (termQ q v)) = q := by
  rw [tmV_qv]
  unfold termQ absQ numV
  dsimp only
  rw [qv_sg]
  by_cases h0 : q < 0
  · rw [if_pos h0, decide_eq_true h0, qv_numOf h.neg, if_pos rfl, Rat.neg_mul, Rat.one_mul, Rat.neg_neg]
  · rw [if_neg h0, decide_eq_false h0, qv_numOf h]; simp
theorem lastV_none {s : By} : ∀ (ts : List Tm) (w : Fr), s ∉ nmsT ts → lastV s ts w = w
  | [], w, h => rfl
  | t :: ts, w, h => by
    have h1 : ¬ t.2.2 = s := fun e => h (by simp [nmsT, e])
    show lastV s ts (if t.2.2 = s then tmV t else w) = w
    rw [if_neg h1]
    exact lastV_none ts w fun hm => h (by simp only [nmsT, List.map_cons, List.mem_cons]; exact .inr hm)
theorem last_back {all : Bool} : ∀ (l : List Rat) (V : Ws), l.length = V.length → V.Nodup → (∀ q, q ∈ l → Short10 q) → ∀ (k : Nat) (hk : k < V.length) (hk2 : k < l.length) (w : Fr), qv w = 0 → qv (lastV V[k] (termsQ all l V) w) = l[k]
  | q :: l, v :: V, hl, hn, hs, k, hk, hk2, w, hw => by
    have hn' := List.nodup_cons.1 hn
    have hsub : ∀ x, x ∈ nmsT (termsQ all l V) → x ∈ V := fun x hx => (names_sub all l V).subset hx
    have ih := last_back (all := all) l V (by simpa using hl) hn'.2 (fun x hx => hs x (by simp [hx]))
    by_cases hc : all = false ∧ q = 0
    · have e2 : termsQ all (q :: l) (v :: V) = termsQ all l V := by conv => lhs; unfold termsQ
                                                                    exact if_pos hc
      rw [e2]
      cases k with
      | zero =>
        show qv (lastV v (termsQ all l V) w) = q
        rw [lastV_none _ _ (fun h => hn'.1 (hsub _ h)), hw]
        exact hc.2.symm
      | succ k => exact ih k (by simpa using hk) (by simpa using hk2) w hw
    · have e2 : termsQ all (q :: l) (v :: V) = termQ q v :: termsQ all l V := by conv => lhs; unfold termsQ
                                                                                 exact if_neg hc
      rw [e2]
      cases k with
      | zero =>
        show qv (lastV v (termsQ all l V) (if v = v then tmV (termQ q v) else w)) = q
        rw [if_pos rfl, lastV_none _ _ (fun h => hn'.1 (hsub _ h)), qv_term (hs q (by simp))]
      | succ k =>
        have hkV : k < V.length := by simpa using hk
        show qv (lastV V[k] (termsQ all l V) (if v = V[k] then tmV (termQ q v) else w)) = l[k]'(by simpa using hk2)
        rw [if_neg (fun e => hn'.1 (by rw [e]; exact List.getElem_mem hkV))]
        exact ih k hkV (by simpa using hk2) w hw
  | [], _, hl, hn, hs, k, hk, hk2, w, hw => absurd hk2 (by simp)
  | _ :: _, [], hl, hn, hs, k, hk, hk2, w, hw => absurd hk (by simp)
theorem dense_back {all : Bool} {l : List Rat} {V : Ws} (hl : l.length = V.length) (hn : V.Nodup) (hs : ∀ q, q ∈ l → Short10 q) : (denseF V ((termsQ all l V).map tmM)).map qv = l := by
  apply List.ext_getElem?
  intro k
  rcases Nat.lt_or_ge k V.length with hk | hk
  · have hm : ∀ t, t ∈ termsQ all l V → t.2.2 ∈ V := fun t ht => (names_sub all l V).subset (List.mem_map.2 ⟨t, ht, rfl⟩)
    rw [List.getElem?_map, denseF_at hk hn hm, Option.map_some, last_back l V hl hn hs k hk (by omega) zeroF zeroR.2.1, List.getElem?_eq_getElem (by omega)]
  · rw [List.getElem?_eq_none (by rw [List.length_map, denseF_len]; exact hk), List.getElem?_eq_none (by omega)]
theorem dense_ok {V : Ws} {ts : List Tm} (hn : V.Nodup) (hm : ∀ t, t ∈ ts → t.2.2 ∈ V) : okL (denseF V (ts.map tmM)) 10003 := by
  intro x hx
  obtain ⟨k, hk, rfl⟩ := List.mem_iff_getElem.1 hx
  have hkV : k < V.length := by rw [denseF_len] at hk; exact hk
  have := denseF_at hkV hn hm
  rw [List.getElem?_eq_getElem hk] at this
  cases this' : (denseF V (ts.map tmM))[k] with
  | mk a b =>
    have e : (denseF V (ts.map tmM))[k] = lastV V[k] ts zeroF := Option.some.inj this
    rw [← this', e]
    exact lastV_ok _ _ _ (zeroR.2.2.mono (by omega))
end Go.Abs
end

section
namespace Go.Abs
open Go
open Classical
set_option linter.unusedVariables false
set_option linter.unusedSimpArgs false
set_option linter.unnecessarySimpa false
structure QMay (V : Ws) (C : List Rat) (R : List QRow) : Prop where
  v60 : V.length ≤ 60
  cl : C.length = V.length
  r60 : R.length ≤ 60
  nv : NamesP V
  nr : NamesP (R.map (·.1))
  rows : ∀ r, r ∈ R → r.2.1.length = V.length ∧ -1 ≤ r.2.2.1 ∧ r.2.2.1 ≤ 1
  sc : ∀ q, q ∈ C → Short10 q
  sr : ∀ r, r ∈ R → (∀ q, q ∈ r.2.1 → Short10 q) ∧ Short10 r.2.2.2
def x0Q (V : Ws) (C : List Rat) : Ln8 := ([], termsQ true C V, 0, [])
def xrQ (V : Ws) (r : QRow) : Ln8 := (r.1, termsQ false r.2.1 V, r.2.2.1, txtR r.2.2.2)
theorem first_back {V : Ws} {C : List Rat} (hV : ∀ v, v ∈ V → NameP v) (hC : ∀ q, q ∈ C → Short10 q) : firstS (minB :: sumTW true V C) = some (x0Q V C) := by
  unfold firstS
  rw [if_pos (show w0W (minB :: sumTW true V C) = minB from rfl), List.tail_cons, sumW_back hV hC]; rfl
theorem relOf_T {rel : Int} (h1 : -1 ≤ rel) (h2 : rel ≤ 1) : relOf (relT rel) = some rel := by
  rcases (show rel = -1 ∨ rel = 0 ∨ rel = 1 by omega) with rfl | rfl | rfl <;> rfl
theorem row_back {V : Ws} {r : QRow} (hv : V.length ≤ 60) (hV : ∀ v, v ∈ V → NameP v) (hn : NameP r.1) (h1 : -1 ≤ r.2.2.1) (h2 : r.2.2.1 ≤ 1) (hc : r.2.1.length = V.length) (hs : ∀ q, q ∈ r.2.1 → Short10 q) (hb : Short10 r.2.2.2) :
    rowS (rowWq V r.1 r.2.1 r.2.2.1 r.2.2.2) = some (xrQ V r) := by
  have hlen : (sumTW false V r.2.1).length ≤ 3 * V.length + 1 := by
    have := sumGo_len false true r.2.1 V
    unfold sumTW
    split
    · simp
    · omega
  have hpos : 1 ≤ (sumTW false V r.2.1).length := List.length_pos_iff.2 (sumTW_ne _ _ _)
  obtain ⟨t, ht⟩ : ∃ t, t = sumTW false V r.2.1 := ⟨_, rfl⟩
  have e : rowWq V r.1 r.2.1 r.2.2.1 r.2.2.2 = (r.1 ++ [58]) :: (t ++ [relT r.2.2.1, txtR r.2.2.2]) := by rw [ht]; rfl
  rw [← ht] at hlen hpos
  have hl : (rowWq V r.1 r.2.1 r.2.2.1 r.2.2.2).length = t.length + 3 := by rw [e]; simp
  have w0 : w0W (rowWq V r.1 r.2.1 r.2.2.1 r.2.2.2) = r.1 ++ [58] := by rw [e]; rfl
  have wr : wrW (rowWq V r.1 r.2.1 r.2.2.1 r.2.2.2) = relT r.2.2.1 := by
    unfold wrW
    rw [hl, e, getD_at (by simp)]
    simp only [show t.length + 3 - 2 = t.length + 1 by omega, List.getElem_cons_succ]
    rw [List.getElem_append_right (by omega)]; simp
  have wl : wlW (rowWq V r.1 r.2.1 r.2.2.1 r.2.2.2) = txtR r.2.2.2 := by
    unfold wlW
    rw [hl, e, getD_at (by simp)]
    simp only [show t.length + 3 - 1 = (t.length + 1) + 1 by omega, List.getElem_cons_succ]
    rw [List.getElem_append_right (by omega)]; simp
  have mid : midW (rowWq V r.1 r.2.1 r.2.2.1 r.2.2.2) = t := by
    unfold midW sub
    rw [hl, wrap64' (by omega) (by omega), e]
    have e1 : (((t.length + 3 : Nat) : Int) - 2).toNat - Int.toNat 1 = t.length := by omega
    rw [e1]
    show ((t ++ [relT r.2.2.1, txtR r.2.2.2]).take t.length) = t
    simp
  have hcol : colonB (r.1 ++ [58]) = true := by unfold colonB; simp
  have hdl : (r.1 ++ [58]).dropLast = r.1 := by simp
  unfold rowS rowOK
  rw [w0, wr, wl, mid, hdl, relOf_T h1 h2, ht, sumW_back hV hs, if_pos ⟨by omega, hcol, (nameB_iff _).2 hn, rfl, isN_txtR hb⟩]
  rfl
theorem addN_self : ∀ (ns : List By) (vs : Ws), (∀ n, n ∈ ns → n ∈ vs) → addN vs ns = vs
  | [], vs, h => rfl
  | n :: ns, vs, h => by
    show addN (if n ∈ vs then vs else vs ++ [n]) ns = vs
    rw [if_pos (h n (by simp))]
    exact addN_self ns vs fun m hm => h m (by simp [hm])
theorem addN_fresh : ∀ (ns : List By) (vs : Ws), (vs ++ ns).Nodup → addN vs ns = vs ++ ns
  | [], vs, h => by simp [addN]
  | n :: ns, vs, h => by
    have hn : n ∉ vs := fun hm => (List.nodup_append.1 h).2.2 n hm n (by simp) rfl
    show addN (if n ∈ vs then vs else vs ++ [n]) ns = _
    rw [if_neg hn, addN_fresh ns (vs ++ [n]) (by rw [List.append_assoc]; exact h), List.append_assoc]; rfl
theorem fold_rows {V : Ws} {C : List Rat} : ∀ (R done : List QRow) (k : Int), V.length ≤ 60 → V.Nodup → (done ++ R).length ≤ 60 → ((done ++ R).map (·.1)).Nodup → (∀ r, r ∈ R → rowS (rowWq V r.1 r.2.1 r.2.2.1 r.2.2.2) = some (xrQ V r)) →
    foldM (done.length + 1) (V, x0Q V C :: done.map (xrQ V)) (linesN k (R.map fun r => rowWq V r.1 r.2.1 r.2.2.1 r.2.2.2)) = .inr (V, x0Q V C :: (done ++ R).map (xrQ V))
  | [], done, k, h1, h2, h3, h4, h5 => by simp [linesN, foldM]
  | r :: R, done, k, h1, h2, h3, h4, h5 => by
    have hr := h5 r (by simp)
    have hsub := names_sub false r.2.1 V
    have hst : stepM (done.length + 1) (V, x0Q V C :: done.map (xrQ V)) (rowWq V r.1 r.2.1 r.2.2.1 r.2.2.2) = .inr (V, x0Q V C :: (done ++ [r]).map (xrQ V)) := by
      unfold stepM lineS
      rw [if_neg (by omega), hr]
      dsimp only
      have hd : ¬ dupT (xrQ V r).2.1 := fun e => e (hsub.nodup h2)
      have hin : ¬ (xrQ V r).1 ∈ ((x0Q V C :: done.map (xrQ V)).drop 1).map (·.1) := by
        intro hm
        have e : ((x0Q V C :: done.map (xrQ V)).drop 1).map (·.1) = done.map (·.1) := by
          show (done.map (xrQ V)).map (·.1) = _
          rw [List.map_map]; rfl
        rw [e] at hm
        rw [List.map_append, List.nodup_append] at h4
        exact h4.2.2 _ hm r.1 (by simp) rfl
      have ha : addN V (nmsT (xrQ V r).2.1) = V := addN_self _ _ fun n hn => hsub.subset hn
      rw [if_neg (fun h => h.elim hd fun h => hin h.2), ha]
      rw [if_neg (fun h => h.elim (fun h => by omega) fun h => by have := h.2; simp at this h3; omega)]
      simp
    have e : linesN k ((r :: R).map fun r => rowWq V r.1 r.2.1 r.2.2.1 r.2.2.2) = (k + 1, rowWq V r.1 r.2.1 r.2.2.1 r.2.2.2) :: linesN (k + 1) (R.map fun r => rowWq V r.1 r.2.1 r.2.2.1 r.2.2.2) := rfl
    rw [e, foldM_inr (p := (k + 1, rowWq V r.1 r.2.1 r.2.2.1 r.2.2.2)) hst]
    have := fold_rows (V := V) (C := C) R (done ++ [r]) (k + 1) h1 h2 (by simpa using h3) (by simpa using h4) (fun x hx => h5 x (by simp [hx]))
    simp only [List.length_append, List.length_singleton] at this
    rw [this]; simp
theorem says_back {V : Ws} {C : List Rat} {R : List QRow} (h : QMay V C R) (hw : ∀ ws, ws ∈ printQ V C R → ws ≠ [] ∧ ∀ w, w ∈ ws → wdOK w) : saysM (linesT (printQ V C R)) = .inr (V, x0Q V C :: R.map (xrQ V)) := by
  unfold saysM
  rw [allL_T hw]
  have e : linesN 0 (printQ V C R) = (0 + 1, minB :: sumTW true V C) :: linesN (0 + 1) (R.map fun r => rowWq V r.1 r.2.1 r.2.2.1 r.2.2.2) := rfl
  rw [e, if_neg (by simp)]
  have hst : stepM 0 (([], []) : St8) (minB :: sumTW true V C) = .inr (V, [x0Q V C]) := by
    unfold stepM lineS
    rw [if_pos rfl, first_back h.nv.2 h.sc]
    dsimp only
    have hnm : nmsT (x0Q V C).2.1 = V := names_all C V h.cl
    have hd : ¬ dupT (x0Q V C).2.1 := fun e => e (show (nmsT (x0Q V C).2.1).Nodup by rw [hnm]; exact h.nv.1)
    rw [if_neg (fun hh => hh.elim hd fun hh => hh.1 rfl), hnm, addN_fresh V [] (by simpa using h.nv.1)]
    rw [if_neg (fun hh => hh.elim (fun hh => by have := h.v60; simp at hh; omega) fun hh => hh.1 rfl)]
    simp
  rw [foldM_inr (p := ((0 : Int) + 1, minB :: sumTW true V C)) hst]
  have := fold_rows (V := V) (C := C) R [] (0 + 1) h.v60 h.nv.1 (by simpa using h.r60) (by simpa using h.nr.1) (fun r hr => row_back h.v60 h.nv.2 (h.nr.2 _ (List.mem_map.2 ⟨r, hr, rfl⟩)) (h.rows r hr).2.1 (h.rows r hr).2.2 (h.rows r hr).1 (h.sr r hr).1 (h.sr r hr).2)
  simpa using this
theorem name_wd {v : By} (h : NameP v) : wdOK v := by
  refine ⟨fun e => by have := h.1; rw [e] at this; simp at this, fun b hb => ?_⟩
  obtain ⟨i, hi, rfl⟩ := List.mem_iff_getElem.1 hb
  have := h.2.2 i v[i] hi (List.getElem?_eq_getElem hi)
  unfold nmOk at this
  omega
theorem txtR_wd (q : Rat) : wdOK (txtR q) := by
  have hd : ∀ n b, b ∈ decT n → 45 ≤ b.toNat ∧ b.toNat ≤ 57 := fun n b hb => by have := decT_dg n b hb; unfold dg at this; omega
  have hw : ∀ z, wtxt z ≠ [] ∧ ∀ b, b ∈ wtxt z → 45 ≤ b.toNat ∧ b.toNat ≤ 57 := fun z => by
    unfold wtxt
    split
    · refine ⟨by simp, fun b hb => ?_⟩
      rcases List.mem_cons.1 hb with rfl | hb
      · decide
      · exact hd _ b hb
    · exact ⟨decT_ne _, hd _⟩
  have key : txtR q ≠ [] ∧ ∀ b, b ∈ txtR q → 45 ≤ b.toNat ∧ b.toNat ≤ 57 := by
    unfold txtR rtxt
    split
    · exact hw _
    · refine ⟨by simp, fun b hb => ?_⟩
      rcases List.mem_append.1 hb with hb | hb
      · rcases List.mem_append.1 hb with hb | hb
        · exact (hw _).2 b hb
        · obtain rfl := List.mem_singleton.1 hb; decide
      · exact hd _ b hb
  exact ⟨key.1, fun b hb => by have := key.2 b hb; omega⟩
theorem wd_one {c : UInt8} (h : 33 ≤ c.toNat ∧ c.toNat ≤ 126 ∧ c.toNat ≠ 35) : wdOK [c] := ⟨by simp, fun b hb => by simp at hb; subst hb; exact h⟩
theorem go_wd : ∀ (all first : Bool) (l : List Rat) (V : Ws), (∀ v, v ∈ V → NameP v) → ∀ w, w ∈ sumGo all first l V → wdOK w
  | all, first, q :: l, v :: V, hV, w, hw => by
    unfold sumGo at hw
    split at hw
    · exact go_wd all first l V (fun x hx => hV x (by simp [hx])) w hw
    · rcases List.mem_append.1 hw with hw | hw
      · have hv := name_wd (hV v (by simp))
        unfold termWq at hw
        split at hw
        · simp at hw
          rcases hw with rfl | rfl | rfl
          · exact wd_one (by decide)
          · exact txtR_wd _
          · exact hv
        · split at hw
          · simp at hw
            rcases hw with rfl | rfl
            · exact txtR_wd _
            · exact hv
          · simp at hw
            rcases hw with rfl | rfl | rfl
            · exact wd_one (by decide)
            · exact txtR_wd _
            · exact hv
      · exact go_wd all false l V (fun x hx => hV x (by simp [hx])) w hw
  | _, _, [], V, hV, w, hw => by simp [sumGo] at hw
  | _, _, _ :: _, [], hV, w, hw => by simp [sumGo] at hw
theorem sumTW_wd {all : Bool} {l : List Rat} {V : Ws} (hV : ∀ v, v ∈ V → NameP v) : ∀ w, w ∈ sumTW all V l → wdOK w := by
  intro w hw
  unfold sumTW at hw
  split at hw
  · simp at hw; subst hw; exact wd_one (by decide)
  · exact go_wd _ _ _ _ hV w hw
theorem printQ_wd {V : Ws} {C : List Rat} {R : List QRow} (h : QMay V C R) : ∀ ws, ws ∈ printQ V C R → ws ≠ [] ∧ ∀ w, w ∈ ws → wdOK w := by
  intro ws hws
  unfold printQ at hws
  rcases List.mem_cons.1 hws with rfl | hws
  · refine ⟨by simp, fun w hw => ?_⟩
    rcases List.mem_cons.1 hw with rfl | hw
    · refine ⟨by decide, fun b hb => ?_⟩
      simp [minB] at hb
      rcases hb with rfl | rfl | rfl <;> decide
    · exact sumTW_wd h.nv.2 w hw
  · obtain ⟨r, hr, rfl⟩ := List.mem_map.1 hws
    refine ⟨by simp [rowWq], fun w hw => ?_⟩
    unfold rowWq at hw
    rcases List.mem_cons.1 hw with rfl | hw
    · have hn := name_wd (h.nr.2 _ (List.mem_map.2 ⟨r, hr, rfl⟩))
      refine ⟨by simp, fun b hb => ?_⟩
      rcases List.mem_append.1 hb with hb | hb
      · exact hn.2 b hb
      · simp at hb; subst hb; decide
    · rcases List.mem_append.1 hw with hw | hw
      · exact sumTW_wd h.nv.2 w hw
      · simp at hw
        rcases hw with rfl | rfl
        · unfold relT
          split
          · refine ⟨by decide, fun b hb => ?_⟩; simp at hb; rcases hb with rfl | rfl <;> decide
          · split
            · exact wd_one (by decide)
            · refine ⟨by decide, fun b hb => ?_⟩; simp at hb; rcases hb with rfl | rfl <;> decide
        · exact txtR_wd _
theorem parse_back {V : Ws} {C : List Rat} {R : List QRow} (h : QMay V C R) (hl : (linesT (printQ V C R)).length ≤ 65536) :
    ∃ (C' : List Fr) (R' : List MRow), model_Parse (linesT (printQ V C R)) (V, C', R', 0, 0) ∧ C'.map qv = C ∧ R'.map qrow = R ∧ okL C' 10003 ∧ okR R' 10003 ∧ MayM V C' R' := by
  have hw := printQ_wd h
  have hs := says_back h hw
  have hp := model_Parse_says hl (linesT_rightP hw)
  rw [hs] at hp
  have hcost : costT (V, x0Q V C :: R.map (xrQ V)) = (termsQ true C V).map tmM := rfl
  have hrows : rowsD (V, x0Q V C :: R.map (xrQ V)) = R.map fun r => rowRec (xrQ V r) (denseF V ((termsQ false r.2.1 V).map tmM)) := by
    unfold rowsD
    show ((R.map (xrQ V)).map _) = _
    rw [List.map_map]; rfl
  have hm : ∀ (all : Bool) (l : List Rat) (t : Tm), t ∈ termsQ all l V → t.2.2 ∈ V := fun all l t ht => (names_sub all l V).subset (List.mem_map.2 ⟨t, ht, rfl⟩)
  refine ⟨_, _, hp, ?_, ?_, ?_, ?_, ?_⟩
  · rw [hcost]; exact dense_back h.cl h.nv.1 h.sc
  · rw [hrows, List.map_map]
    conv => rhs; rw [← List.map_id R]
    refine List.map_congr_left fun r hr => ?_
    show (r.1, (denseF V ((termsQ false r.2.1 V).map tmM)).map qv, r.2.2.1, qv (numOf (txtR r.2.2.2))) = r
    rw [dense_back (h.rows r hr).1 h.nv.1 (h.sr r hr).1, qv_numOf (h.sr r hr).2]
  · rw [hcost]; exact dense_ok h.nv.1 (hm true C)
  · rw [hrows]
    intro x hx
    obtain ⟨r, hr, rfl⟩ := List.mem_map.1 hx
    exact ⟨dense_ok h.nv.1 (hm false r.2.1), (numOf_okX _).mono (by omega)⟩
  · refine ⟨h.v60, denseF_len _ _, by rw [hrows, List.length_map]; exact h.r60, h.nv, ?_, fun x hx => ?_⟩
    · rw [hrows, List.map_map]; exact h.nr
    · rw [hrows] at hx
      obtain ⟨r, hr, rfl⟩ := List.mem_map.1 hx
      exact ⟨denseF_len _ _, (h.rows r hr).2.1, (h.rows r hr).2.2⟩
end Go.Abs
end

section
namespace Go.Abs
open Go
set_option linter.unusedVariables false
set_option linter.unusedSimpArgs false
set_option linter.unnecessarySimpa false
abbrev vq (l : List Fr) : List Rat := l.map qv
def okV (l : List Fr) (k : Nat) : Prop := l.length ≤ 8 ∧ ∀ x, x ∈ l → okX x k
end Go.Abs
end

section
namespace Go.Abs
open Go
open Classical
set_option linter.unusedVariables false
set_option linter.unusedSimpArgs false
set_option linter.unnecessarySimpa false
structure Sml (A : List (List Fr)) (B C : List Fr) (k : Nat) : Prop where
  rows : A.length ≤ 4
  row : ∀ r, r ∈ A → okV r k
  b : okV B k
  c : okV C k
theorem okV.mono {l : List Fr} {a b : Nat} (h : okV l a) (hab : a ≤ b) : okV l b := ⟨h.1, fun x hx => (h.2 x hx).mono hab⟩
theorem Sml.zero {A : List (List Fr)} {B C : List Fr} {k : Nat} (h : Sml A B C k) (hk : 1 ≤ k) : Sml A (List.replicate B.length zeroF) C k :=
  ⟨h.rows, h.row, ⟨by simp; exact h.b.1, fun x hx => by rw [List.eq_of_mem_replicate hx]; exact zeroR.2.2.mono hk⟩, h.c⟩
end Go.Abs
end

section
namespace Go.Abs
open Go
open Classical
set_option linter.unusedVariables false
set_option linter.unusedSimpArgs false
set_option linter.unnecessarySimpa false
theorem Sml.mono {A : List (List Fr)} {B C : List Fr} {a b : Nat} (h : Sml A B C a) (hab : a ≤ b) : Sml A B C b := ⟨h.rows, fun r hr => (h.row r hr).mono hab, h.b.mono hab, h.c.mono hab⟩
end Go.Abs
end

section
namespace Go.Abs
open Go
open Classical
set_option linter.unusedVariables false
set_option linter.unusedSimpArgs false
set_option linter.unnecessarySimpa false
theorem vec_Same_says {a b : List Fr} {k : Nat} (hk : k ≤ 15000) (la : a.length ≤ 1000) (ha : ∀ x, x ∈ a → okX x k) (hb : ∀ x, x ∈ b → okX x k) : vec_Same a b (decide (vq a = vq b)) := by
  unfold vec_Same
  refine IfB.neI (fun h => decide_eq_false fun e => h (by have := congrArg List.length e; simp at this; omega)) (fun hlen => ?_)
  refine LoopP.intro (fun z : Int => ∃ i : Nat, z = i ∧ i ≤ a.length ∧ ∀ j (h1 : j < a.length) (h2 : j < b.length), j < i → qv a[j] = qv b[j]) (fun z => a.length - z.toNat) ⟨0, rfl, by omega, fun j _ _ h => by omega⟩ ?_
  rintro X z ⟨i, rfl, hi, hn⟩ hX
  unfold vec_Same_L1
  refine IfB.dc (fun h1 => ?_) (fun h1 => decide_eq_true ?_)
  · have hia : i < a.length := by omega
    have hib : i < b.length := by omega
    obtain ⟨c, c1, c2, _⟩ := cmpR (ha _ (List.getElem_mem hia)) (hb _ (List.getElem_mem hib)) (by omega) (by omega)
    have hs : vec_Same_1 a[i].1 a[i].2.1 a[i].2.2 b[i].1 b[i].2.1 b[i].2.2 (decide (qv a[i] = qv b[i])) := ⟨c, c1, IfB.eqI (fun h => decide_eq_true (c2.1 h)) (fun h => decide_eq_false fun e => h (c2.2 e))⟩
    refine ⟨_, _, _, Idx.nat hia, _, _, _, Idx.nat hib, _, hs, IfB.dc (fun he => ?_) (fun he => decide_eq_false fun e => he ?_)⟩
    · rw [wrap64' (by omega) (by omega)]
      refine hX _ ⟨i + 1, by omega, by omega, fun j h1 h2 hj => ?_⟩ (by omega)
      by_cases e : j = i
      · subst e; exact he
      · exact hn j h1 h2 (by omega)
    · have h1 : (vq a)[i]'(by simp; exact hia) = qv a[i] := by simp [vq]
      have h2 : (vq b)[i]'(by simp; exact hib) = qv b[i] := by simp [vq]
      rw [← h1, ← h2]
      congr 1
  · refine List.ext_getElem (by simp; omega) fun j h1 h2 => ?_
    simp only [vq, List.length_map] at h1 h2
    simp only [vq, List.getElem_map]
    exact hn j h1 h2 (by omega)
end Go.Abs
end

section
namespace Go.Abs
open Go
open Classical
set_option linter.unusedVariables false
set_option linter.unusedSimpArgs false
set_option linter.unnecessarySimpa false
theorem qmay_of {V : Ws} {C : List Fr} {R : List MRow} (hm : MayM V C R) (sC : ∀ x, x ∈ C → Short10 (qv x)) (sR : ∀ r, r ∈ R → (∀ x, x ∈ r.2.1 → Short10 (qv x)) ∧ Short10 (qv r.2.2.2)) : QMay V (C.map qv) (R.map qrow) := by
  obtain ⟨m1, m2, m3, m4, m5, m6⟩ := hm
  refine ⟨m1, by rw [List.length_map]; exact m2, by rw [List.length_map]; exact m3, m4, ?_, fun r hr => ?_, fun q hq => ?_, fun r hr => ?_⟩
  · rw [List.map_map]; exact m5
  · obtain ⟨x, hx, rfl⟩ := List.mem_map.1 hr
    exact ⟨by show (x.2.1.map qv).length = _; rw [List.length_map]; exact (m6 x hx).1, (m6 x hx).2.1, (m6 x hx).2.2⟩
  · obtain ⟨x, hx, rfl⟩ := List.mem_map.1 hq
    exact sC x hx
  · obtain ⟨x, hx, rfl⟩ := List.mem_map.1 hr
    refine ⟨fun q hq => ?_, (sR x hx).2⟩
    obtain ⟨y, hy, rfl⟩ := List.mem_map.1 hq
    exact (sR x hx).1 y hy
end Go.Abs
end

section
namespace Go.Abs
open Go
open Classical
set_option linter.unusedVariables false
set_option linter.unusedSimpArgs false
set_option linter.unnecessarySimpa false
def tl (q : Rat) : Nat := (decT q.num.natAbs).length + (if q.den = 1 then 0 else 1 + (decT q.den).length)
theorem tl_neg (q : Rat) : tl (-q) = tl q := by unfold tl; rw [Rat.neg_num, Rat.neg_den, Int.natAbs_neg]
theorem txtR_tl (q : Rat) : (txtR q).length ≤ 1 + tl q := by
  unfold txtR rtxt wtxt tl
  split <;> split <;> simp <;> omega
theorem txtR_abs (q : Rat) : (txtR (absQ q)).length = tl q := by
  have key : ∀ q : Rat, ¬ q < 0 → (txtR q).length = tl q := fun q h => by
    have hz : ¬ q.num < 0 := fun e => h ((num_lt q).1 e)
    unfold txtR rtxt wtxt tl
    rw [if_neg hz]
    split
    · simp
    · simp; omega
  unfold absQ
  split
  · rename_i h; rw [key _ (neg_nonneg h), tl_neg]
  · rename_i h; exact key _ h
theorem dec_le {s : By} {n : Nat} (hd : allDg s) (hs : s ≠ []) (h : n ≤ dV 0 s) : (decT n).length ≤ s.length := by
  have := dV_lt s hd
  have hp : 1 ≤ s.length := List.length_pos_iff.2 hs
  have := decT_len (s.length - 1) n (by rw [Nat.sub_add_cancel hp]; omega)
  omega
theorem parse_short {s : By} (h : (parseR s).2 = 0) : s.length ≤ 400 ∧ ∀ n, n ≤ val (parseR s).1 → (decT n).length ≤ s.length := by
  unfold parseR at h ⊢
  split at h
  · cases h
  · rename_i h1
    split at h
    · cases h
    · rename_i h2
      rw [if_neg h1, if_neg h2]
      simp only [not_or, Classical.not_not] at h1
      refine ⟨by omega, fun n hn => ?_⟩
      dsimp only at hn
      rw [val_words] at hn
      exact dec_le h1.2 h1.1 hn
theorem whole_short {s : By} (h : (wholeR s).2.2 = 0) : ∀ n, n ≤ val (wholeR s).2.1 → (decT n).length ≤ s.length ∧ (decT n).length ≤ 400 := by
  unfold wholeR at h ⊢
  split at h
  · rename_i h1; exact absurd h h1
  · rename_i h1
    rw [if_neg h1]
    intro n hn
    have h0 : (parseR (Lib.trimPrefix s [45])).2 = 0 := Classical.byContradiction fun e => h1 e
    obtain ⟨a, b⟩ := parse_short h0
    have := b n hn
    have := trimP_len s
    omega
theorem numOf_tl {w : By} (h : isN w) : tl (qv (numOf w)) ≤ w.length ∧ Short10 (qv (numOf w)) := by
  unfold isN ratR at h
  obtain ⟨a, ha⟩ : ∃ a, a = (Lib.cut w [47]).1 := ⟨_, rfl⟩
  obtain ⟨b, hb⟩ : ∃ b, b = (if (Lib.cut w [47]).2.2 then (Lib.cut w [47]).2.1 else [49]) := ⟨_, rfl⟩
  simp only [← ha, ← hb] at h
  split at h
  · rename_i h1; exact absurd h h1
  rename_i h1
  split at h
  · rename_i h2; exact absurd h h2
  rename_i h2
  split at h
  · cases h
  rename_i h3
  have h1 : (wholeR a).2.2 = 0 := Classical.byContradiction h1
  have h2 : (parseR b).2 = 0 := Classical.byContradiction h2
  have hr : numOf w = ratC (wholeR a).1 (val (wholeR a).2.1) (val (parseR b).1) := by
    unfold numOf ratR
    simp only [← ha, ← hb]
    rw [if_neg (fun e => e h1), if_neg (fun e => e h2), if_neg h3]
  obtain ⟨n, hn⟩ : ∃ n, n = val (wholeR a).2.1 := ⟨_, rfl⟩
  obtain ⟨d, hd⟩ : ∃ d, d = val (parseR b).1 := ⟨_, rfl⟩
  rw [← hn, ← hd] at hr
  rw [← hd] at h3
  have sa := whole_short h1
  obtain ⟨sb, sb2⟩ := parse_short h2
  rw [← hn] at sa
  rw [← hd] at sb2
  -- the number, lowest
  obtain ⟨q1, q2⟩ := qv_low (numOf w)
  have hN : (qv (numOf w)).num.natAbs ≤ n := by
    rw [q1, iV_abs]
    unfold lowN
    refine Nat.le_trans (Nat.div_le_self _ _) ?_
    rw [hr]; unfold ratC; dsimp only; rw [val_words]; exact Nat.div_le_self _ _
  have hD : (qv (numOf w)).den ≤ d ∧ (d = 1 → (qv (numOf w)).den = 1) := by
    rw [q2]
    have hle : lowD (numOf w) ≤ d := by
      unfold lowD
      refine Nat.le_trans (Nat.div_le_self _ _) ?_
      rw [hr]; unfold ratC; dsimp only; rw [val_words]
      unfold den1
      split
      · omega
      · exact Nat.div_le_self _ _
    exact ⟨hle, fun e => by have := lowD_pos (numOf w); omega⟩
  have s1 := sa _ hN
  have s2 := sb2 _ hD.1
  refine ⟨?_, s1.2, by omega⟩
  unfold tl
  have hcut : ∀ {c : Bool}, (Lib.cut w [47]).2.2 = c → (c = true → a.length + 1 + b.length ≤ w.length) ∧ (c = false → a.length ≤ w.length ∧ b = [49]) := fun {c} hc => by
    constructor
    · intro e
      by_cases hs : (47 : UInt8) ∈ w
      · obtain ⟨x, y, rfl, hx⟩ := first_at hs
        rw [cut_app hx] at ha hb
        simp only [if_true] at hb
        rw [ha, hb]; simp; omega
      · rw [cut_no (fun x hx e => hs (by rw [← e]; exact hx)), e] at hc; cases hc
    · intro e
      rw [hc, e] at hb
      have := cut_len1 w 47
      rw [← ha] at this
      exact ⟨this, by simpa using hb⟩
  cases hc : (Lib.cut w [47]).2.2 with
  | true =>
    have := (hcut hc).1 rfl
    split <;> omega
  | false =>
    obtain ⟨l1, l2⟩ := (hcut hc).2 rfl
    have hd1 : d = 1 := by
      rw [hd, l2]
      unfold parseR
      rw [if_neg (by decide), if_neg (by decide), val_words]
      rfl
    rw [if_pos (hD.2 hd1)]
    omega
theorem qv_one : qv (sgF false) = 1 := by rw [qv_sg]; rfl
def oLen : Option By → Nat | some w => w.length | none => 1
theorem numV_tl {o : Option By} (h : ∀ w, o = some w → isN w) : tl (qv (numV o)) ≤ oLen o ∧ Short10 (qv (numV o)) := by
  cases o with
  | none =>
    unfold numV
    rw [qv_one]
    have e1 : decT 1 = [49] := by rw [decT_lt (by omega)]; decide
    unfold tl Short10
    have n1 : (1 : Rat).num.natAbs = 1 := rfl
    have d1 : (1 : Rat).den = 1 := rfl
    rw [n1, d1, e1, if_pos rfl]
    exact ⟨by simp [oLen], by simp, by simp⟩
  | some w => exact numOf_tl (h w rfl)
theorem tm_tl {t : Tm} (h : ∀ w, t.2.1 = some w → isN w) : tl (qv (tmV t)) ≤ oLen t.2.1 ∧ Short10 (qv (tmV t)) := by
  obtain ⟨a, b⟩ := numV_tl h
  rw [tmV_qv, qv_sg]
  cases t.1 with
  | false => simp only [Bool.false_eq_true, if_false, Rat.one_mul]; exact ⟨a, b⟩
  | true =>
    simp only [if_true, Rat.neg_mul, Rat.one_mul, tl_neg]
    exact ⟨a, b.neg⟩
theorem short_zero : Short10 0 ∧ tl 0 = 1 := by
  have e0 : decT 0 = [48] := by rw [decT_lt (by omega)]; decide
  have e1 : decT 1 = [49] := by rw [decT_lt (by omega)]; decide
  unfold Short10 tl
  have n1 : (0 : Rat).num.natAbs = 0 := rfl
  have d1 : (0 : Rat).den = 1 := rfl
  rw [n1, d1, e0, e1, if_pos rfl]
  exact ⟨⟨by simp, by simp⟩, by simp⟩
def costTm (t : Tm) : Nat := 21 + (match t.2.1 with | some w => w.length | none => 0)
def costTs (ts : List Tm) : Nat := (ts.map costTm).sum
theorem wlen_cons (w : By) (l : Ws) : wlen (w :: l) = w.length + 1 + wlen l := by simp [wlen]
theorem nameS_cost {neg : Bool} {l : Ws} {t : Tm} {r : Ws} (h : nameS neg l = some (t, r)) : costTm t + 11 * wlen r ≤ 11 * wlen l := by
  unfold nameS at h
  split at h
  · cases h
  · rename_i w r' e
    split at h
    · rename_i hn
      cases h
      have hw := ((nameB_iff _).1 hn).1
      unfold numS at e ⊢
      cases l with
      | nil => cases e
      | cons x l =>
        simp only at e ⊢
        split at e
        · rename_i hu
          simp only at e
          subst e
          rw [if_pos hu, wlen_cons, wlen_cons]
          unfold costTm
          dsimp only
          omega
        · rename_i hu
          simp only at e
          cases e
          rw [if_neg hu, wlen_cons]
          unfold costTm
          dsimp only
          omega
    · cases h
theorem signS_cost {first : Bool} {l l1 : Ws} {neg : Bool} (h : signS first l = some (neg, l1)) : wlen l1 ≤ wlen l := by
  unfold signS at h
  split at h
  · split at h <;> cases h; simp
  · split at h
    · cases h; rw [wlen_cons]; omega
    · split at h
      · cases h; omega
      · split at h <;> cases h; rw [wlen_cons]; omega
theorem stepS_cost {first : Bool} {l : Ws} {t : Tm} {r : Ws} (h : stepS first l = some (t, r)) : costTm t + 11 * wlen r ≤ 11 * wlen l := by
  unfold stepS at h
  split at h
  · cases h
  · rename_i neg l1 e
    have := signS_cost e; have := nameS_cost h; omega
theorem sumS_cost : ∀ (n : Nat) (first : Bool) (l : Ws) (ts : List Tm), l.length ≤ n → sumS first l = some ts → costTs ts ≤ 11 * wlen l := by
  intro n
  induction n with
  | zero =>
    intro first l ts hl h
    have : l = [] := List.length_eq_zero_iff.1 (by omega)
    subst this
    cases first with
    | false => rw [sumS_nil] at h; cases h; simp [costTs]
    | true => rw [sumS_step (.inl rfl)] at h; cases h
  | succ n ih =>
    intro first l ts hl h
    by_cases hc : first = true ∨ l ≠ []
    · rw [sumS_step hc] at h
      cases hs : stepS first l with
      | none => rw [hs] at h; cases h
      | some p =>
        obtain ⟨t1, r⟩ := p
        rw [hs] at h
        have hlt := stepS_lt hs
        simp only [Option.map_eq_some_iff] at h
        obtain ⟨ts', h1, rfl⟩ := h
        have i1 := ih false r ts' (by omega) h1
        have i2 := stepS_cost hs
        have e : costTs (t1 :: ts') = costTm t1 + costTs ts' := by simp [costTs]
        omega
    · have e1 : first = false := by cases first <;> simp_all
      have e2 : l = [] := Classical.byContradiction fun h => hc (.inr h)
      subst e1 e2
      rw [sumS_nil] at h; cases h; simp [costTs]
theorem sumW_cost {l : Ws} {ts : List Tm} (h : sumW l = some ts) : costTs ts ≤ 11 * wlen l := by
  unfold sumW at h
  split at h
  · cases h; simp [costTs]
  · exact sumS_cost l.length true l ts (Nat.le_refl _) h
end Go.Abs
end
