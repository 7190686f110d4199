/- Part of a proof, in few files: L8g L8h L8i L8j L8k L8m L8n. -/
import Derived.Test.YtdbfgnpobfbfmaaGreatDoorMAgK25

section
namespace Go.Abs
open Go
open Classical
set_option linter.unusedVariables false
set_option linter.unusedSimpArgs false
set_option linter.unnecessarySimpa false
noncomputable def lineS (k : Nat) (ws : Ws) : Option Ln8 := if k = 0 then firstS ws else rowS ws
def dupT (ts : List Tm) : Prop := ¬ (ts.map (·.2.2)).Nodup
abbrev St8 := Ws × List Ln8
def nmsT (ts : List Tm) : List By := ts.map (·.2.2)
noncomputable def stepM (k : Nat) (st : St8) (ws : Ws) : Int ⊕ St8 :=
  match lineS k ws with
  | none => .inl 2
  | some x => if dupT x.2.1 ∨ (k ≠ 0 ∧ x.1 ∈ (st.2.drop 1).map (·.1)) then .inl 3 else
    if 60 < (addN st.1 (nmsT x.2.1)).length ∨ (k ≠ 0 ∧ 61 ≤ st.2.length) then .inl 4 else .inr (addN st.1 (nmsT x.2.1), st.2 ++ [x])
noncomputable def foldM (k : Nat) (st : St8) : Ls → (Int × Int) ⊕ St8
  | [] => .inr st
  | (a, ws) :: r => match stepM k st ws with | .inl e => .inl (a, e) | .inr st' => foldM (k + 1) st' r
def rowRec (x : Ln8) (c : List Fr) : By × List Fr × Int × Bool × List Int × List Int := (x.1, c, x.2.2.1, (numOf x.2.2.2).1, (numOf x.2.2.2).2.1, (numOf x.2.2.2).2.2)
def rowsM (l : List Ln8) : List (By × List Fr × Int × Bool × List Int × List Int) := (l.drop 1).map fun x => rowRec x []
def sumsM (l : List Ln8) : List (List TM) := l.map fun x => x.2.1.map tmM
theorem names_tmM (ts : List Tm) : (ts.map tmM).map (·.1) = nmsT ts := by simp [tmM, nmsT, Function.comp_def]
theorem sumW_len {l : Ws} {ts : List Tm} (h : sumW l = some ts) : ts.length ≤ l.length := by
  have key : ∀ (n : Nat) (first : Bool) (l : Ws) (ts : List Tm), l.length ≤ n → sumS first l = some ts → ts.length ≤ l.length := by
    intro n
    induction n with
    | zero =>
      intro first l ts hl h
      have : l = [] := List.length_eq_zero_iff.1 (by omega)
      subst this
      cases first with
      | false => rw [sumS_nil] at h; cases h; simp
      | true =>
        rw [sumS_step (.inl rfl)] at h
        cases h
    | succ n ih =>
      intro first l ts hl h
      by_cases hc : first = true ∨ l ≠ []
      · rw [sumS_step hc] at h
        cases hs : stepS first l with
        | none => rw [hs] at h; cases h
        | some p =>
          obtain ⟨t, r⟩ := p
          rw [hs] at h
          have hlt := stepS_lt hs
          simp only [Option.map_eq_some_iff] at h
          obtain ⟨ts', h1, rfl⟩ := h
          have := ih false r ts' (by omega) h1
          simp; omega
      · have e1 : first = false := by cases first <;> simp_all
        have e2 : l = [] := Classical.byContradiction fun h => hc (.inr h)
        subst e1 e2
        rw [sumS_nil] at h; cases h; simp
  unfold sumW at h
  split at h
  · cases h; simp
  · exact key l.length true l ts (Nat.le_refl _) h
theorem line_len {k : Nat} {ws : Ws} {x : Ln8} (h : lineS k ws = some x) : x.2.1.length ≤ ws.length := by
  unfold lineS at h
  split at h
  · unfold firstS at h
    split at h
    · simp only [Option.map_eq_some_iff] at h
      obtain ⟨ts, h1, rfl⟩ := h
      have := sumW_len h1; simp at this ⊢; omega
    · cases h
  · unfold rowS at h
    split at h
    · simp only [Option.map_eq_some_iff] at h
      obtain ⟨ts, h1, rfl⟩ := h
      have := sumW_len h1
      unfold midW sub at this; simp at this ⊢; omega
    · cases h
abbrev MR := Ws × List Fr × List (By × List Fr × Int × Bool × List Int × List Int) × Int × Int
abbrev MX := Int × Ws × List (By × List Fr × Int × Bool × List Int × List Int) × List (List TM)
def errM (a e : Int) : MR := ([], [], [], a, e)
theorem rowNames_loop {l : List Ln8} (hl : l.length ≤ 1000000) : LoopP (model_Parse_L3 (rowsM l) ((l.drop 1).map (·.1))) ((0 : Int), []) := by
  have hlen : (rowsM l).length = l.length - 1 := by simp [rowsM]
  refine LoopP.intro (fun z : Int × Ws => ∃ k : Nat, z.1 = k ∧ k ≤ l.length - 1 ∧ z.2 = ((l.drop 1).map (·.1)).take k) (fun z => l.length - 1 - z.1.toNat) ⟨0, rfl, by omega, by simp⟩ ?_
  rintro X ⟨z1, z2⟩ ⟨k, h1, hk, h2⟩ hX
  simp only at h1 h2
  subst h1 h2
  unfold model_Parse_L3
  dsimp only
  refine IfB.dec (fun h => ?_) (fun h => ?_)
  · have hkl : k < l.length - 1 := by omega
    have hkd : k < (l.drop 1).length := by simp; omega
    refine ⟨_, _, _, _, _, _, ⟨by omega, by unfold rowsM; rw [List.getElem?_map, Int.toNat_natCast, List.getElem?_eq_getElem hkd]; rfl⟩, by unfold Fits; simp; omega, ?_⟩
    rw [wrap64' (by omega) (by omega)]
    refine hX _ ⟨k + 1, by dsimp only; omega, by omega, ?_⟩ (by dsimp only; omega)
    dsimp only
    rw [take_succ (by simpa using hkl)]; simp [rowRec]
  · have : k = l.length - 1 := by omega
    subst this
    rw [List.take_of_length_le (by simp)]
theorem model_line {x1 : Ls} {k : Nat} {a : Int} {ws : Ws} {st : St8} {r : MR} {X : MX → Prop} (hk : k < x1.length) (hx : x1[k] = (a, ws)) (hlen : x1.length ≤ 100000) (hws : wrdOK ws) (hne : ws ≠ [])
    (hst : st.2.length = k) (hv : st.1.length ≤ 60)
    (hE : ∀ e, stepM k st ws = .inl e → r = errM a e) (hX : ∀ st', stepM k st ws = .inr st' → X (((k + 1 : Nat) : Int), st'.1, rowsM st'.2, sumsM st'.2)) :
    model_Parse_L1 x1 r X ((k : Int), st.1, rowsM st.2, sumsM st.2) := by
  have hw1 : IntKind.i64.wrap ((k : Int) + 1) = ((k + 1 : Nat) : Int) := by rw [wrap64' (by omega) (by omega)]; rfl
  have hsl : (sumsM st.2).length = k := by unfold sumsM; rw [List.length_map, hst]
  unfold model_Parse_L1
  dsimp only
  refine IfB.dec (fun _ => ?_) (fun h => absurd (by omega) h)
  refine ⟨a, ws, ⟨by omega, by rw [Int.toNat_natCast, List.getElem?_eq_getElem hk, hx]⟩, IfB.eqi (fun h0 => ?_) (fun h0 => ?_)⟩
  · have h0 : k = 0 := by omega
    have eL : lineS k ws = firstS ws := if_pos h0
    have hsay := model_first_says ws hws hne
    have hflag := firstM_flag ws
    have hsome := fun x => firstM_some (ws := ws) (x := x)
    generalize firstM ws = R at hsay hflag hsome
    obtain ⟨f1, f2, f3, f4, f5, f6, f7⟩ := R
    refine ⟨f1, f2, f3, f4, f5, f6, f7, hsay, ?_⟩
    dsimp only at hflag
    cases hf : firstS ws with
    | none =>
      rw [hf] at hflag
      rw [hflag]
      exact IfB_false.2 (hE 2 (by unfold stepM; rw [eL, hf]))
    | some x =>
      have hln := line_len (eL.trans hf)
      have := hws.1
      have hR := (hsome x hf).1
      simp only [Prod.mk.injEq] at hR
      obtain ⟨rfl, rfl, rfl, rfl, rfl, rfl, rfl⟩ := hR
      refine IfB_true.2 ⟨_, model_twice_says _ (by simp; omega), ?_⟩
      rw [names_tmM]
      refine IfB.dec (fun hd => ?_) (fun hd => ?_)
      · exact hE 3 (by unfold stepM; rw [eL, hf]; exact if_pos (.inl hd))
      · have hs3 : stepM k st ws = if 60 < (addN st.1 (nmsT x.2.1)).length ∨ (k ≠ 0 ∧ 61 ≤ st.2.length) then .inl 4 else .inr (addN st.1 (nmsT x.2.1), st.2 ++ [x]) := by
          unfold stepM; rw [eL, hf]; exact if_neg (fun h => h.elim hd fun h => h.1 h0)
        refine addLoop (ts := x.2.1.map tmM) (vars := st.1) (E := fun s251 => IfB (decide ((s251.length : Int) > (60 : Int))) (r = errM a 4) (Fits ((sumsM st.2).length + [x.2.1.map tmM].length) 24 ∧ X ((IntKind.i64.wrap ((k : Int) + 1)), s251, rowsM st.2, (sumsM st.2 ++ [x.2.1.map tmM])))) (by omega) (by simp; omega) ?_
        rw [names_tmM]
        refine IfB.dec (fun hm => ?_) (fun hm => ?_)
        · exact hE 4 (by rw [hs3]; exact if_pos (.inl (by omega)))
        · refine ⟨by unfold Fits; rw [hsl]; simp; omega, ?_⟩
          rw [hw1]
          have := hX _ (by rw [hs3]; exact if_neg (fun h => h.elim (fun h => hm (by omega)) fun h => h.1 h0))
          dsimp only at this
          have e1 : rowsM (st.2 ++ [x]) = rowsM st.2 := by
            have : st.2 = [] := List.length_eq_zero_iff.1 (by omega)
            rw [this]; rfl
          have e2 : sumsM (st.2 ++ [x]) = sumsM st.2 ++ [x.2.1.map tmM] := by simp [sumsM]
          rw [e1, e2] at this
          exact this
  · have h0 : k ≠ 0 := by omega
    have eL : lineS k ws = rowS ws := if_neg h0
    have hsay := model_row_says ws hws
    have hflag := rowM_flag ws
    have hsome := fun x => rowM_some (ws := ws) (x := x)
    generalize rowM ws = R at hsay hflag hsome
    obtain ⟨f1, f2, f3, f4, f5, f6, f7⟩ := R
    refine ⟨f1, f2, f3, f4, f5, f6, f7, hsay, ?_⟩
    dsimp only at hflag
    cases hf : rowS ws with
    | none =>
      rw [hf] at hflag
      rw [hflag]
      exact IfB_false.2 (hE 2 (by unfold stepM; rw [eL, hf]))
    | some x =>
      have hln := line_len (eL.trans hf)
      have := hws.1
      have hR := (hsome x hf).1
      simp only [Prod.mk.injEq] at hR
      obtain ⟨rfl, rfl, rfl, rfl, rfl, rfl, rfl⟩ := hR
      refine IfB_true.2 (IfB.dec (fun _ => ?_) (fun h => absurd (by omega) h))
      refine ⟨_, model_twice_says _ (by simp; omega), ?_⟩
      rw [names_tmM]
      refine IfB.dec (fun hd => ?_) (fun hd => ?_)
      · exact hE 3 (by unfold stepM; rw [eL, hf]; exact if_pos (.inl hd))
      · refine ⟨_, rowNames_loop (l := st.2) (by omega), _, lines_Index_says _ x.1 (by simp; omega), IfB.dec (fun hi => ?_) (fun hi => ?_)⟩
        · refine hE 3 (by unfold stepM; rw [eL, hf]; refine if_pos (.inr ⟨h0, Classical.byContradiction fun hh => ?_⟩); have := idxN_neg.2 hh; omega)
        · have hnin : x.1 ∉ (st.2.drop 1).map (·.1) := idxN_neg.1 (by omega)
          have hs3 : stepM k st ws = if 60 < (addN st.1 (nmsT x.2.1)).length ∨ (k ≠ 0 ∧ 61 ≤ st.2.length) then .inl 4 else .inr (addN st.1 (nmsT x.2.1), st.2 ++ [x]) := by
            unfold stepM; rw [eL, hf]; exact if_neg (fun h => h.elim hd fun h => hnin h.2)
          have hrl : (rowsM st.2).length = k - 1 := by simp [rowsM, hst]
          refine addLoop (ts := x.2.1.map tmM) (vars := st.1) (E := fun s251 => IfB (decide ((s251.length : Int) > (60 : Int))) (r = errM a 4) (IfB (decide (((rowsM st.2).length : Int) ≥ (60 : Int))) (r = errM a 4) (Fits ((sumsM st.2).length + [x.2.1.map tmM].length) 24 ∧ Fits ((rowsM st.2).length + [rowRec x []].length) 104 ∧ X ((IntKind.i64.wrap ((k : Int) + 1)), s251, (rowsM st.2 ++ [rowRec x []]), (sumsM st.2 ++ [x.2.1.map tmM]))))) (by omega) (by simp; omega) ?_
          rw [names_tmM]
          refine IfB.dec (fun hm => ?_) (fun hm => ?_)
          · exact hE 4 (by rw [hs3]; exact if_pos (.inl (by omega)))
          · refine IfB.dec (fun hr => ?_) (fun hr => ?_)
            · exact hE 4 (by rw [hs3]; exact if_pos (.inr ⟨h0, by omega⟩))
            · refine ⟨by unfold Fits; rw [hsl]; simp; omega, by unfold Fits; rw [hrl]; simp; omega, ?_⟩
              rw [hw1]
              have := hX _ (by rw [hs3]; exact if_neg (fun h => h.elim (fun h => hm (by omega)) fun h => hr (by omega)))
              dsimp only at this
              have e1 : rowsM (st.2 ++ [x]) = rowsM st.2 ++ [rowRec x []] := by
                unfold rowsM
                rw [List.drop_append_of_le_length (by omega)]; simp
              have e2 : sumsM (st.2 ++ [x]) = sumsM st.2 ++ [x.2.1.map tmM] := by simp [sumsM]
              rw [e1, e2] at this
              exact this
end Go.Abs
end

section
namespace Go.Abs
open Go
open Classical
set_option linter.unusedVariables false
set_option linter.unusedSimpArgs false
set_option linter.unnecessarySimpa false
theorem nameS_facts {neg : Bool} {l : Ws} {t : Tm} {r : Ws} (h : nameS neg l = some (t, r)) : NameP t.2.2 ∧ ∀ w, t.2.1 = some w → isN w ∧ w ∈ l := by
  unfold nameS at h
  split at h
  · cases h
  · rename_i w r' e
    split at h
    · rename_i hn
      cases h
      refine ⟨(nameB_iff _).1 hn, fun w' hw => ?_⟩
      unfold numS at hw
      split at hw
      · cases hw
      · rename_i w2 r2
        split at hw
        · rename_i hu
          cases hw
          have h45 : (45 : UInt8) ∉ w' := fun h => by rw [numU_no45 h] at hu; cases hu
          rw [numU_isN' h45] at hu
          exact ⟨of_decide_eq_true hu, by simp⟩
        · cases hw
    · cases h
theorem stepS_facts {first : Bool} {l : Ws} {t : Tm} {r : Ws} (h : stepS first l = some (t, r)) : NameP t.2.2 ∧ ∀ w, t.2.1 = some w → isN w ∧ w ∈ l := by
  unfold stepS at h
  split at h
  · cases h
  · rename_i neg l1 e
    obtain ⟨a, b⟩ := nameS_facts h
    exact ⟨a, fun w hw => ⟨(b w hw).1, (signS_suf e).subset (b w hw).2⟩⟩
theorem sumS_facts : ∀ (n : Nat) (first : Bool) (l : Ws) (ts : List Tm), l.length ≤ n → sumS first l = some ts → ∀ t, t ∈ ts → NameP t.2.2 ∧ ∀ w, t.2.1 = some w → isN w ∧ w ∈ l := by
  intro n
  induction n with
  | zero =>
    intro first l ts hl h t ht
    have : l = [] := List.length_eq_zero_iff.1 (by omega)
    subst this
    cases first with
    | false => rw [sumS_nil] at h; cases h; cases ht
    | true => rw [sumS_step (.inl rfl)] at h; cases h
  | succ n ih =>
    intro first l ts hl h t ht
    by_cases hc : first = true ∨ l ≠ []
    · rw [sumS_step hc] at h
      cases hs : stepS first l with
      | none => rw [hs] at h; cases h
      | some p =>
        obtain ⟨t1, r⟩ := p
        rw [hs] at h
        have hlt := stepS_lt hs
        simp only [Option.map_eq_some_iff] at h
        obtain ⟨ts', h1, rfl⟩ := h
        rcases List.mem_cons.1 ht with rfl | ht
        · exact stepS_facts hs
        · obtain ⟨a, b⟩ := ih false r ts' (by omega) h1 t ht
          exact ⟨a, fun w hw => ⟨(b w hw).1, (stepS_suf hs).subset (b w hw).2⟩⟩
    · have e1 : first = false := by cases first <;> simp_all
      have e2 : l = [] := Classical.byContradiction fun h => hc (.inr h)
      subst e1 e2
      rw [sumS_nil] at h; cases h; cases ht
theorem sumW_facts {l : Ws} {ts : List Tm} (h : sumW l = some ts) : ∀ t, t ∈ ts → NameP t.2.2 ∧ ∀ w, t.2.1 = some w → isN w ∧ w ∈ l := by
  unfold sumW at h
  split at h
  · cases h; intro t ht; cases ht
  · exact sumS_facts l.length true l ts (Nat.le_refl _) h
theorem relOf_range (w : By) : -1 ≤ (relOf w).getD 0 ∧ (relOf w).getD 0 ≤ 1 := by
  unfold relOf
  split
  · decide
  · split
    · decide
    · split <;> decide
structure LnOK (ws : Ws) (x : Ln8) : Prop where
  names : ∀ t, t ∈ x.2.1 → NameP t.2.2 ∧ ∀ w, t.2.1 = some w → isN w ∧ w ∈ ws
structure RwOK (ws : Ws) (x : Ln8) : Prop where
  name : NameP x.1
  rel : -1 ≤ x.2.2.1 ∧ x.2.2.1 ≤ 1
  num : isN x.2.2.2
  mem : x.2.2.2 ∈ ws
theorem mid_mem {ws : Ws} {w : By} (h : w ∈ midW ws) : w ∈ ws := by unfold midW sub at h; exact List.mem_of_mem_drop (List.mem_of_mem_take h)
theorem rowS_ok {ws : Ws} {x : Ln8} (h : rowS ws = some x) : LnOK ws x ∧ RwOK ws x := by
  unfold rowS at h
  split at h
  · rename_i hk
    simp only [Option.map_eq_some_iff] at h
    obtain ⟨ts, h1, rfl⟩ := h
    obtain ⟨h4, hc, hn, hr, hN⟩ := hk
    exact ⟨⟨fun t ht => ⟨(sumW_facts h1 t ht).1, fun w hw => ⟨((sumW_facts h1 t ht).2 w hw).1, mid_mem ((sumW_facts h1 t ht).2 w hw).2⟩⟩⟩, ⟨(nameB_iff _).1 hn, relOf_range _, hN, mem_wl h4⟩⟩
  · cases h
theorem firstS_ok {ws : Ws} {x : Ln8} (h : firstS ws = some x) : LnOK ws x := by
  unfold firstS at h
  split at h
  · simp only [Option.map_eq_some_iff] at h
    obtain ⟨ts, h1, rfl⟩ := h
    exact ⟨fun t ht => ⟨(sumW_facts h1 t ht).1, fun w hw => ⟨((sumW_facts h1 t ht).2 w hw).1, List.mem_of_mem_tail ((sumW_facts h1 t ht).2 w hw).2⟩⟩⟩
  · cases h
theorem addN_mem (v : By) : ∀ (ns : List By) (vs : Ws), v ∈ addN vs ns ↔ v ∈ vs ∨ v ∈ ns
  | [], vs => by simp [addN]
  | n :: ns, vs => by
    show v ∈ addN (if n ∈ vs then vs else vs ++ [n]) ns ↔ _
    rw [addN_mem v ns]
    split
    · rename_i h
      constructor
      · rintro (h1 | h1)
        · exact .inl h1
        · exact .inr (by simp [h1])
      · rintro (h1 | h1)
        · exact .inl h1
        · rcases List.mem_cons.1 h1 with rfl | h1
          · exact .inl h
          · exact .inr h1
    · simp [or_assoc]
theorem addN_nodup : ∀ (ns : List By) (vs : Ws), vs.Nodup → (addN vs ns).Nodup
  | [], vs, h => h
  | n :: ns, vs, h => by
    show (addN (if n ∈ vs then vs else vs ++ [n]) ns).Nodup
    refine addN_nodup ns _ ?_
    split
    · exact h
    · rename_i hn
      rw [List.nodup_append]
      exact ⟨h, by simp, fun a ha b hb e => by simp at hb; subst hb; subst e; exact hn ha⟩
structure InvS (k : Nat) (st : St8) : Prop where
  len : st.2.length = k
  v60 : st.1.length ≤ 60
  r61 : k ≤ 61
  nd : st.1.Nodup
  nm : ∀ v, v ∈ st.1 → NameP v
  sub : ∀ x, x ∈ st.2 → ∀ t, t ∈ x.2.1 → t.2.2 ∈ st.1
  dup : ∀ x, x ∈ st.2 → ¬ dupT x.2.1
  rows : ((st.2.drop 1).map (·.1)).Nodup
  rok : ∀ x, x ∈ st.2.drop 1 → NameP x.1 ∧ (-1 ≤ x.2.2.1 ∧ x.2.2.1 ≤ 1) ∧ isN x.2.2.2
theorem InvS.zero : InvS 0 ([], []) := ⟨rfl, by simp, by omega, by simp, by simp, by simp, by simp, by simp, by simp⟩
theorem InvS.step {k : Nat} {st st' : St8} {ws : Ws} (h : InvS k st) (hs : stepM k st ws = .inr st') : InvS (k + 1) st' := by
  unfold stepM at hs
  split at hs
  · cases hs
  · rename_i x hx
    split at hs
    · cases hs
    · rename_i h1
      split at hs
      · cases hs
      · rename_i h2
        cases hs
        have hln : LnOK ws x := by
          unfold lineS at hx
          split at hx
          · exact firstS_ok hx
          · exact (rowS_ok hx).1
        refine ⟨by simp [h.len], ?_, ?_, addN_nodup _ _ h.nd, ?_, ?_, ?_, ?_, ?_⟩
        · exact Nat.le_of_not_lt fun e => h2 (.inl e)
        · by_cases hk : k = 0
          · omega
          · have := h.len
            have : ¬ 61 ≤ st.2.length := fun e => h2 (.inr ⟨hk, e⟩)
            omega
        · intro v hv
          rcases (addN_mem v _ _).1 hv with hv | hv
          · exact h.nm v hv
          · obtain ⟨t, ht, rfl⟩ := List.mem_map.1 hv
            exact (hln.names t ht).1
        · intro y hy t ht
          refine (addN_mem _ _ _).2 ?_
          rcases List.mem_append.1 hy with hy | hy
          · exact .inl (h.sub y hy t ht)
          · simp at hy; subst hy
            exact .inr (List.mem_map.2 ⟨t, ht, rfl⟩)
        · intro y hy
          rcases List.mem_append.1 hy with hy | hy
          · exact h.dup y hy
          · simp at hy; subst hy
            exact fun e => h1 (.inl e)
        · by_cases hk : k = 0
          · have : st.2 = [] := List.length_eq_zero_iff.1 (by have := h.len; omega)
            rw [this]; simp
          · rw [List.drop_append_of_le_length (by have := h.len; omega), List.map_append, List.nodup_append]
            refine ⟨h.rows, by simp, fun a ha b hb e => ?_⟩
            simp at hb
            subst hb; subst e
            exact h1 (.inr ⟨hk, ha⟩)
        · intro y hy
          by_cases hk : k = 0
          · have : st.2 = [] := List.length_eq_zero_iff.1 (by have := h.len; omega)
            rw [this] at hy; simp at hy
          · rw [List.drop_append_of_le_length (by have := h.len; omega)] at hy
            rcases List.mem_append.1 hy with hy | hy
            · exact h.rok y hy
            · simp at hy; subst hy
              have hr : rowS ws = some y := by unfold lineS at hx; rwa [if_neg hk] at hx
              have := (rowS_ok hr).2
              exact ⟨this.name, this.rel, this.num⟩
def denseW (vars : Ws) (ts : List TM) (d : List Fr) : List Fr := ts.foldl (fun d t => d.set (vars.idxOf t.1) t.2) d
def denseF (vars : Ws) (ts : List TM) : List Fr := denseW vars ts (List.replicate vars.length zeroF)
theorem denseW_len (vars : Ws) : ∀ (ts : List TM) (d : List Fr), (denseW vars ts d).length = d.length
  | [], d => rfl
  | t :: ts, d => by
    show (denseW vars ts (d.set (vars.idxOf t.1) t.2)).length = _
    rw [denseW_len vars ts]; simp
theorem denseF_len (vars : Ws) (ts : List TM) : (denseF vars ts).length = vars.length := by unfold denseF; rw [denseW_len]; simp
theorem zeroLoop {n : Nat} {E : List Fr → Prop} (hn : n ≤ 1000) (hE : E (List.replicate n zeroF)) :
    LoopP (fun (X : Int × List Fr → Prop) (s : Int × List Fr) => match s with
      | (s600, s657) => IfB (decide (s600 < ((List.replicate (Int.toNat (n : Int)) (0 : Int)).length : Int)))
         (∃ (x92 : Int), Idx (List.replicate (Int.toNat (n : Int)) (0 : Int)) s600 x92 ∧ ∃ (x94 : Bool) (x95 : List Int) (x96 : List Int), rat_Int x92 (x94, x95, x96) ∧
          Fits (s657.length + [(x94, x95, x96)].length) 56 ∧ X ((IntKind.i64.wrap (s600 + 1)), (s657 ++ [(x94, x95, x96)])))
         (E s657)) ((0 : Int), []) := by
  refine LoopP.intro (fun z : Int × List Fr => ∃ k : Nat, z.1 = k ∧ k ≤ n ∧ z.2 = List.replicate k zeroF) (fun z => n - z.1.toNat) ⟨0, rfl, by omega, rfl⟩ ?_
  rintro X ⟨z1, z2⟩ ⟨k, h1, hk, h2⟩ hX
  simp only at h1 h2
  subst h1 h2
  refine IfB.dec (fun h => ?_) (fun h => ?_)
  · have hkn : k < n := by simp at h; omega
    refine ⟨0, ⟨by omega, by simp [hkn]⟩, _, _, _, rat_Int0, by unfold Fits; simp; omega, ?_⟩
    rw [wrap64' (by omega) (by omega)]
    exact hX _ ⟨k + 1, by dsimp only; omega, by omega, by dsimp only; rw [List.replicate_succ']; rfl⟩ (by dsimp only; omega)
  · have : k = n := by simp at h; omega
    subst this; exact hE
theorem writeLoop {vars : Ws} {ts : List TM} {d0 : List Fr} {E : List Fr → Prop} (hv : vars.length ≤ 1000) (hd : d0.length = vars.length) (hl : ts.length ≤ 100000) (hm : ∀ t, t ∈ ts → t.1 ∈ vars) (hE : E (denseW vars ts d0)) :
    LoopP (fun (X : Int × List Fr → Prop) (s : Int × List Fr) => match s with
      | (s700, s757) => IfB (decide (s700 < (ts.length : Int)))
         (∃ (x100 : List UInt8) (x101 : Bool) (x102 : List Int) (x103 : List Int), Idx ts s700 (x100, x101, x102, x103) ∧ ∃ (x105 : Int), lines_Index vars x100 x105 ∧
          ∃ (x107 : Bool) (x108 : List Int) (x109 : List Int), Idx s757 x105 (x107, x108, x109) ∧ X ((IntKind.i64.wrap (s700 + 1)), (s757.set (Int.toNat x105) (x101, x102, x103))))
         (E s757)) ((0 : Int), d0) := by
  refine LoopP.intro (fun z : Int × List Fr => ∃ k : Nat, z.1 = k ∧ k ≤ ts.length ∧ z.2 = denseW vars (ts.take k) d0) (fun z => ts.length - z.1.toNat) ⟨0, rfl, by omega, rfl⟩ ?_
  rintro X ⟨z1, z2⟩ ⟨k, h1, hk, h2⟩ hX
  simp only at h1 h2
  subst h1
  refine IfB.dec (fun h => ?_) (fun h => ?_)
  · have hkn : k < ts.length := by omega
    have hmem := hm ts[k] (List.getElem_mem hkn)
    obtain ⟨i1, i2⟩ := idxN_at hmem
    have hz : z2.length = vars.length := by rw [h2, denseW_len, hd]
    refine ⟨ts[k].1, ts[k].2.1, ts[k].2.2.1, ts[k].2.2.2, Idx.nat hkn, _, lines_Index_says vars _ (by omega), ?_⟩
    rw [i1]
    refine ⟨_, _, _, Idx.nat (l := z2) (k := vars.idxOf ts[k].1) (by omega), ?_⟩
    rw [wrap64' (by omega) (by omega)]
    refine hX _ ⟨k + 1, by dsimp only; omega, by omega, ?_⟩ (by dsimp only; omega)
    dsimp only
    rw [take_succ hkn, h2]
    unfold denseW
    rw [List.foldl_append]; rfl
  · have : k = ts.length := by omega
    subst this
    rw [List.take_length] at h2
    rw [h2]; exact hE
end Go.Abs
end

section
namespace Go.Abs
open Go
open Classical
set_option linter.unusedVariables false
set_option linter.unusedSimpArgs false
set_option linter.unnecessarySimpa false
def costT (st : St8) : List TM := (sumsM st.2).headD []
def rowsD (st : St8) : List (By × List Fr × Int × Bool × List Int × List Int) := (st.2.drop 1).map fun x => rowRec x (denseF st.1 (x.2.1.map tmM))
def resMd : (Int × Int) ⊕ St8 → MR
  | .inl (a, e) => errM a e
  | .inr st => (st.1, denseF st.1 (costT st), rowsD st, 0, 0)
theorem set_mid {α : Type} {a b : List α} {k : Nat} {x : α} (ha : k < a.length) (hl : a.length = b.length) (hx : a[k] = x) : (a.take k ++ b.drop k).set k x = a.take (k + 1) ++ b.drop (k + 1) := by
  have e1 : (a.take k).length = k := by rw [List.length_take]; omega
  have hb : k < b.length := by omega
  rw [List.set_append_right _ _ (by omega), e1, Nat.sub_self, List.drop_eq_getElem_cons hb, List.set_cons_zero, take_succ ha, hx, List.append_assoc]; rfl
theorem rows_fill {st : St8} {k : Nat} {cost : List Fr} (h : InvS k st) (hk : 1 ≤ k) (hts : ∀ x, x ∈ st.2 → x.2.1.length ≤ 100000) :
    LoopP (model_Parse_L7 st.1 (rowsM st.2) (sumsM st.2) cost (st.1, cost, rowsD st, 0, 0)) ((0 : Int), rowsM st.2) := by
  have hr : (rowsM st.2).length = k - 1 := by simp [rowsM, h.len]
  have hd : (rowsD st).length = k - 1 := by simp [rowsD, h.len]
  have := h.r61
  have hv := h.v60
  refine LoopP.intro (fun z : Int × List (By × List Fr × Int × Bool × List Int × List Int) => ∃ j : Nat, z.1 = j ∧ j ≤ k - 1 ∧ z.2 = (rowsD st).take j ++ (rowsM st.2).drop j) (fun z => k - 1 - z.1.toNat) ⟨0, rfl, by omega, rfl⟩ ?_
  rintro X ⟨z1, z2⟩ ⟨j, h1, hj, h2⟩ hX
  simp only at h1 h2
  subst h1
  unfold model_Parse_L7
  dsimp only
  rw [hr]
  refine IfB.dec (fun hh => ?_) (fun hh => ?_)
  · have hjk : j < k - 1 := by omega
    have hjl : j + 1 < st.2.length := by have := h.len; omega
    have hw1 : IntKind.i64.wrap ((j : Int) + 1) = ((j + 1 : Nat) : Int) := by rw [wrap64' (by omega) (by omega)]; rfl
    rw [hw1]
    have hsum : (sumsM st.2)[j + 1]? = some (st.2[j + 1].2.1.map tmM) := by unfold sumsM; rw [List.getElem?_map, List.getElem?_eq_getElem hjl]; rfl
    have hdr : (st.2.drop 1)[j]? = some st.2[j + 1] := by rw [List.getElem?_drop, Nat.add_comm, List.getElem?_eq_getElem hjl]
    have hrow : (rowsM st.2)[j]? = some (rowRec st.2[j + 1] []) := by unfold rowsM; rw [List.getElem?_map, hdr]; rfl
    have hrd : (rowsD st)[j]'(by omega) = rowRec st.2[j + 1] (denseF st.1 (st.2[j + 1].2.1.map tmM)) := by
      have : (rowsD st)[j]? = some (rowRec st.2[j + 1] (denseF st.1 (st.2[j + 1].2.1.map tmM))) := by unfold rowsD; rw [List.getElem?_map, hdr]; rfl
      exact (List.getElem?_eq_some_iff.1 this).2
    have hmem : st.2[j + 1] ∈ st.2 := List.getElem_mem hjl
    refine ⟨_, ⟨by omega, hsum⟩, denseF st.1 (st.2[j + 1].2.1.map tmM), ⟨⟨by omega, by unfold Fits; simp; omega, by unfold Fits; simp; omega⟩, ?_⟩, ?_⟩
    · refine zeroLoop (n := st.1.length) (E := fun s960 => LoopP (model_Parse_L9 st.1 (st.2[j + 1].2.1.map tmM) (denseF st.1 (st.2[j + 1].2.1.map tmM))) ((0 : Int), s960)) (by omega) ?_
      refine writeLoop (vars := st.1) (ts := st.2[j + 1].2.1.map tmM) (d0 := List.replicate st.1.length zeroF) (E := fun s => denseF st.1 (st.2[j + 1].2.1.map tmM) = s) (by omega) (by simp) (by simp; exact hts _ hmem) (fun t ht => ?_) rfl
      obtain ⟨t', ht', rfl⟩ := List.mem_map.1 ht
      exact h.sub _ hmem t' ht'
    · have hz : z2[j]? = some (rowRec st.2[j + 1] []) := by
        rw [h2, List.getElem?_append_right (by rw [List.length_take]; omega), List.length_take, Nat.min_eq_left (by omega), Nat.sub_self, List.getElem?_drop, Nat.add_zero, hrow]
      refine ⟨_, _, _, _, _, _, ⟨by omega, hz⟩, ?_⟩
      refine hX _ ⟨j + 1, rfl, by omega, ?_⟩ (by dsimp only; omega)
      dsimp only
      rw [h2, Int.toNat_natCast]
      exact set_mid (by omega) (by omega) hrd
  · have : j = k - 1 := by omega
    subst this
    rw [h2, List.take_of_length_le (by omega), List.drop_eq_nil_of_le (by omega), List.append_nil]
def LsOK (l : Ls) : Prop := l.length ≤ 100000 ∧ ∀ x, x ∈ l → wrdOK x.2 ∧ x.2 ≠ []
theorem terms_len {l : Ls} (hl : LsOK l) : ∀ (r : Ls) (k : Nat) (st st' : St8), (∀ x, x ∈ r → x ∈ l) → (∀ x, x ∈ st.2 → x.2.1.length ≤ 100000) → foldM k st r = .inr st' → ∀ x, x ∈ st'.2 → x.2.1.length ≤ 100000
  | [], k, st, st', hr, hs, h => by cases h; exact hs
  | (a, ws) :: r, k, st, st', hr, hs, h => by
    unfold foldM at h
    cases he : stepM k st ws with
    | inl e => rw [he] at h; cases h
    | inr st1 =>
      rw [he] at h
      refine terms_len hl r (k + 1) st1 st' (fun x hx => hr x (by simp [hx])) ?_ h
      unfold stepM at he
      split at he
      · cases he
      · rename_i x hx
        split at he
        · cases he
        · split at he
          · cases he
          · cases he
            intro y hy
            rcases List.mem_append.1 hy with hy | hy
            · exact hs y hy
            · simp at hy; subst hy
              have := line_len hx
              have := (hl.2 (a, ws) (hr _ (by simp))).1.1
              dsimp only at this; omega
theorem foldM_inl {k : Nat} {st : St8} {p : Int × Ws} {r : Ls} {e : Int} (h : stepM k st p.2 = .inl e) : foldM k st (p :: r) = .inl (p.1, e) := by
  obtain ⟨a, ws⟩ := p
  unfold foldM; dsimp only at h ⊢; rw [h]
theorem foldM_inr {k : Nat} {st st' : St8} {p : Int × Ws} {r : Ls} (h : stepM k st p.2 = .inr st') : foldM k st (p :: r) = foldM (k + 1) st' r := by
  obtain ⟨a, ws⟩ := p
  conv => lhs; unfold foldM
  dsimp only at h ⊢; rw [h]
theorem parse_loop (l : Ls) (hl : LsOK l) (hne : l ≠ []) : LoopP (model_Parse_L1 l (resMd (foldM 0 ([], []) l))) ((0 : Int), [], [], []) := by
  have hlen := hl.1
  have hpos : 1 ≤ l.length := Nat.pos_of_ne_zero fun e => hne (List.length_eq_zero_iff.1 e)
  refine LoopP.intro (fun z : MX => ∃ (k : Nat) (st : St8), z = ((k : Int), st.1, rowsM st.2, sumsM st.2) ∧ k ≤ l.length ∧ InvS k st ∧ foldM 0 ([], []) l = foldM k st (l.drop k)) (fun z => l.length - z.1.toNat) ⟨0, ([], []), rfl, by omega, InvS.zero, rfl⟩ ?_
  rintro X z ⟨k, st, rfl, hk, hi, hf⟩ hX
  rcases Nat.lt_or_ge k l.length with hkl | hkl
  · have hd := List.drop_eq_getElem_cons hkl
    have hm := hl.2 _ (List.getElem_mem hkl)
    refine model_line (a := l[k].1) (ws := l[k].2) hkl rfl hl.1 hm.1 hm.2 hi.len hi.v60 (fun e he => ?_) (fun st' hs => ?_)
    · rw [hf, hd, foldM_inl he]; rfl
    · refine hX _ ⟨k + 1, st', rfl, by omega, hi.step hs, ?_⟩ (by dsimp only; omega)
      rw [hf, hd, foldM_inr hs]
  · have e : k = l.length := by omega
    have hdn : l.drop k = [] := List.drop_eq_nil_of_le hkl
    rw [hdn] at hf
    have hts := terms_len hl l 0 ([], []) st (fun x hx => hx) (by simp) hf
    rw [hf]
    unfold model_Parse_L1
    dsimp only
    have hv := hi.v60
    refine IfB.dec (fun h => absurd h (by omega)) (fun _ => ?_)
    obtain ⟨x0, xs, hst⟩ : ∃ x0 xs, st.2 = x0 :: xs := by
      cases h : st.2 with
      | nil => have := hi.len; rw [h] at this; simp at this; omega
      | cons x0 xs => exact ⟨x0, xs, rfl⟩
    have hm0 : x0 ∈ st.2 := by rw [hst]; simp
    have hc : costT st = x0.2.1.map tmM := by unfold costT sumsM; rw [hst]; rfl
    refine ⟨x0.2.1.map tmM, by rw [hst]; exact idx0 _ _, ⟨by omega, by unfold Fits; simp; omega, by unfold Fits; simp; omega⟩, ?_⟩
    refine zeroLoop (n := st.1.length) (E := fun s657 => LoopP (model_Parse_L6 st.1 (rowsM st.2) (sumsM st.2) (x0.2.1.map tmM) (resMd (.inr st))) ((0 : Int), s657)) (by omega) ?_
    refine writeLoop (vars := st.1) (ts := x0.2.1.map tmM) (d0 := List.replicate st.1.length zeroF) (E := fun s757 => LoopP (model_Parse_L7 st.1 (rowsM st.2) (sumsM st.2) s757 (resMd (.inr st))) ((0 : Int), rowsM st.2)) (by omega) (by simp) (by simp; exact hts _ hm0) (fun t ht => ?_) ?_
    · obtain ⟨t', ht', rfl⟩ := List.mem_map.1 ht
      exact hi.sub _ hm0 t' ht'
    · show LoopP (model_Parse_L7 st.1 (rowsM st.2) (sumsM st.2) (denseF st.1 (x0.2.1.map tmM)) (st.1, denseF st.1 (costT st), rowsD st, 0, 0)) ((0 : Int), rowsM st.2)
      rw [hc]
      exact rows_fill hi (by omega) hts
noncomputable def saysM (s : By) : (Int × Int) ⊕ St8 := if allL s = [] then .inl (0, 2) else foldM 0 ([], []) (allL s)
theorem wlen_mem8 : ∀ {l : Ws} {w : By}, w ∈ l → w.length + 1 ≤ wlen l
  | x :: l, w, h => by
    have e : wlen (x :: l) = x.length + 1 + wlen l := by simp [wlen]
    rw [e]
    rcases List.mem_cons.1 h with rfl | h
    · omega
    · have := wlen_mem8 h; omega
theorem allLs_ok {s : By} (hl : s.length ≤ 65536) : LsOK (allL s) := by
  constructor
  · have := linesFrom_length (splitC 10 s) 0
    have h2 : (splitC 10 s).length = s.count 10 + 1 := split_len
    have h3 : s.count 10 ≤ s.length := List.count_le_length
    unfold allL; omega
  · intro x hx
    have hw := all_wlen s x hx
    have h0 := wlen_len x.2
    refine ⟨⟨by omega, fun w hw' => ?_⟩, ?_⟩
    · have := wlen_mem8 hw'
      omega
    · have hr := linesFrom_rising (splitC 10 s) 0
      obtain ⟨i, hi, e⟩ := List.mem_iff_getElem.1 hx
      have := (hr.at (i := i) (x := x) (by unfold allL at hi e; rw [List.getElem?_eq_getElem hi, e])).1
      exact fun e => by rw [e] at this; simp at this
theorem model_Parse_says {s : By} (hl : s.length ≤ 65536) (hr : RightP s) : model_Parse s (resMd (saysM s)) := by
  unfold model_Parse
  refine ⟨_, _, lines_All_says hl hr, IfB.nei (fun h => absurd rfl h) (fun _ => ?_)⟩
  unfold saysM
  by_cases he : allL s = []
  · rw [if_pos he]
    exact IfB.eqi (fun _ => rfl) (fun h => absurd (by rw [he]; rfl) h)
  · rw [if_neg he]
    exact IfB.eqi (fun h => absurd (List.length_eq_zero_iff.1 (by omega)) he) (fun _ => parse_loop _ (allLs_ok hl) he)
theorem model_Parse_wrong {s : By} (hl : s.length ≤ 65536) (hr : ¬ RightP s) : model_Parse s (errM 0 2) := by
  unfold model_Parse
  exact ⟨_, _, lines_All_form hl hr, IfB.nei (fun _ => rfl) (fun h => absurd h (by decide))⟩
end Go.Abs
end

section
namespace Go.Abs
open Go
open Classical
set_option linter.unusedVariables false
set_option linter.unusedSimpArgs false
set_option linter.unnecessarySimpa false
theorem firstS_shape {ws : Ws} {x : Ln8} (h : firstS ws = some x) : x.1 = [] ∧ x.2.2.1 = 0 ∧ x.2.2.2 = [] := by
  unfold firstS at h
  split at h
  · simp only [Option.map_eq_some_iff] at h
    obtain ⟨ts, h1, rfl⟩ := h
    exact ⟨rfl, rfl, rfl⟩
  · cases h
end Go.Abs
end

section
namespace Go.Abs
open Go
open Classical
set_option linter.unusedVariables false
set_option linter.unusedSimpArgs false
set_option linter.unnecessarySimpa false
abbrev MRow := By × List Fr × Int × Bool × List Int × List Int
def NamesP (l : Ws) : Prop := l.Nodup ∧ ∀ v, v ∈ l → NameP v
theorem idx_take {l : Ws} {k : Nat} (hk : k < l.length) : l.idxOf l[k] = k ↔ l[k] ∉ l.take k := by
  have hlt : l.idxOf l[k] < l.length := List.idxOf_lt_length_of_mem (List.getElem_mem hk)
  have he : l[l.idxOf l[k]] = l[k] := List.getElem_idxOf hlt
  constructor
  · intro h hm
    obtain ⟨i, hi, e⟩ := List.mem_take_iff_getElem.1 hm
    have hik : i < k := by omega
    have hil : i < l.length := by omega
    have := List.not_of_lt_findIdx (p := (· == l[k])) (xs := l) (i := i) (by show i < l.idxOf l[k]; omega)
    rw [e] at this
    simp at this
  · intro h
    rcases Nat.lt_or_ge (l.idxOf l[k]) k with h1 | h1
    · exact absurd (List.mem_take_iff_getElem.2 ⟨l.idxOf l[k], by omega, he⟩) h
    · rcases Nat.lt_or_ge k (l.idxOf l[k]) with h2 | h2
      · have := List.not_of_lt_findIdx (p := (· == l[k])) (xs := l) (i := k) h2
        simp at this
      · omega
theorem idx_nodup {l : Ws} {k : Nat} (hk : k < l.length) (hn : l.Nodup) : l.idxOf l[k] = k := (idx_take hk).2 ((nodup_succ hk).1 (hn.sublist (List.take_sublist _ _))).2
theorem model_names_says (l : Ws) (hl : l.length ≤ 1000000) : model_names l (decide (NamesP l)) := by
  unfold model_names
  refine LoopP.intro (fun z : Int => ∃ k : Nat, z = k ∧ k ≤ l.length ∧ (l.take k).Nodup ∧ ∀ v, v ∈ l.take k → NameP v) (fun z => l.length - z.toNat) ⟨0, rfl, by omega, by simp, by simp⟩ ?_
  rintro X z ⟨k, rfl, hk, hn, hm⟩ hX
  unfold model_names_L1
  dsimp only
  refine IfB.dec (fun h => ?_) (fun h => ?_)
  · have hkl : k < l.length := by omega
    refine ⟨_, Idx.nat hkl, _, lines_Name_says (nameB_iff _), IfB.bool (fun hN => ?_) (fun hN => ?_)⟩
    · have hN := (nameB_iff _).1 hN
      refine ⟨_, lines_Index_says l _ (by omega), ?_⟩
      rw [(idxN_at (List.getElem_mem hkl)).1]
      refine IfB.nei (fun he => ?_) (fun he => ?_)
      · refine decide_eq_false fun hp => he ?_
        rw [idx_nodup hkl hp.1]
      · rw [wrap64' (by omega) (by omega)]
        have := (idx_take hkl).1 (by omega)
        refine hX _ ⟨k + 1, by omega, by omega, (nodup_succ hkl).2 ⟨hn, this⟩, fun v hv => ?_⟩ (by omega)
        rw [take_succ hkl, List.mem_append] at hv
        rcases hv with hv | hv
        · exact hm v hv
        · simp at hv; subst hv; exact hN
    · refine decide_eq_false fun hp => ?_
      rw [(nameB_iff _).2 (hp.2 _ (List.getElem_mem hkl))] at hN; cases hN
  · have e : k = l.length := by omega
    subst e
    rw [List.take_length] at hn hm
    exact decide_eq_true ⟨hn, hm⟩
def MayM (V : Ws) (C : List Fr) (R : List MRow) : Prop := V.length ≤ 60 ∧ C.length = V.length ∧ R.length ≤ 60 ∧ NamesP V ∧ NamesP (R.map (·.1)) ∧ ∀ r, r ∈ R → r.2.1.length = V.length ∧ -1 ≤ r.2.2.1 ∧ r.2.2.1 ≤ 1
theorem model_Right_says (V : Ws) (C : List Fr) (R : List MRow) : model_Right V C R (decide (MayM V C R)) := by
  unfold model_Right
  refine IfB.dec (fun h1 => ?_) (fun h1 => decide_eq_false fun h => h1 (by have := h.1; omega))
  refine IfB.eqi (fun h2 => ?_) (fun h2 => decide_eq_false fun h => h2 (by have := h.2.1; omega))
  refine IfB.dec (fun h3 => ?_) (fun h3 => decide_eq_false fun h => h3 (by have := h.2.2.1; omega))
  refine ⟨_, model_names_says V (by omega), IfB.dec (fun h4 => ?_) (fun h4 => decide_eq_false fun h => h4 h.2.2.2.1)⟩
  refine LoopP.intro (fun z : Int × Ws => ∃ k : Nat, z.1 = k ∧ k ≤ R.length ∧ z.2 = (R.map (·.1)).take k) (fun z => R.length - z.1.toNat) ⟨0, rfl, by omega, by simp⟩ ?_
  rintro X ⟨z1, z2⟩ ⟨k, e1, hk, e2⟩ hX
  simp only at e1 e2
  subst e1
  unfold model_Right_L1
  dsimp only
  refine IfB.dec (fun h => ?_) (fun h => ?_)
  · have hkl : k < R.length := by omega
    refine ⟨R[k].1, R[k].2.1, R[k].2.2.1, R[k].2.2.2.1, R[k].2.2.2.2.1, R[k].2.2.2.2.2, Idx.nat hkl, by unfold Fits; rw [e2]; simp; omega, ?_⟩
    rw [wrap64' (by omega) (by omega)]
    refine hX _ ⟨k + 1, by dsimp only; omega, by omega, ?_⟩ (by dsimp only; omega)
    dsimp only
    rw [take_succ (by simpa using hkl), e2]; simp
  · have e : k = R.length := by omega
    subst e
    rw [List.take_of_length_le (by simp)] at e2
    refine ⟨_, model_names_says z2 (by rw [e2]; simp; omega), ?_⟩
    rw [e2]
    refine IfB.dec (fun h5 => ?_) (fun h5 => decide_eq_false fun h => h5 h.2.2.2.2.1)
    refine LoopP.intro (fun z : Int => ∃ k : Nat, z = k ∧ k ≤ R.length ∧ ∀ r, r ∈ R.take k → r.2.1.length = V.length ∧ -1 ≤ r.2.2.1 ∧ r.2.2.1 ≤ 1) (fun z => R.length - z.toNat) ⟨0, rfl, by omega, by simp⟩ ?_
    rintro Y z ⟨k, rfl, hk, hm⟩ hY
    unfold model_Right_L2
    dsimp only
    refine IfB.dec (fun h => ?_) (fun h => ?_)
    · have hkl : k < R.length := by omega
      have hmem := List.getElem_mem hkl
      have no : ∀ p : Prop, p → ¬ (R[k].2.1.length = V.length ∧ -1 ≤ R[k].2.2.1 ∧ R[k].2.2.1 ≤ 1) → IfB (decide ((k : Int) ≥ 0)) (decide (MayM V C R) = false) (decide (MayM V C R) = true) := fun _ _ hno =>
        IfB.dec (fun _ => decide_eq_false fun h => hno (h.2.2.2.2.2 _ hmem)) (fun h => absurd (by omega) h)
      refine ⟨R[k].1, R[k].2.1, R[k].2.2.1, R[k].2.2.2.1, R[k].2.2.2.2.1, R[k].2.2.2.2.2, Idx.nat hkl, IfB.nei (fun a => no True trivial (fun h => a (by omega))) (fun a => IfB.dec (fun b => no True trivial (fun h => by omega)) (fun b => IfB.dec (fun c => no True trivial (fun h => by omega)) (fun c => ?_)))⟩
      rw [wrap64' (by omega) (by omega)]
      refine hY _ ⟨k + 1, by omega, by omega, fun r hr => ?_⟩ (by omega)
      rw [take_succ hkl, List.mem_append] at hr
      rcases hr with hr | hr
      · exact hm r hr
      · simp at hr; subst hr; exact ⟨by omega, by omega, by omega⟩
    · have e : k = R.length := by omega
      subst e
      rw [List.take_length] at hm
      exact decide_eq_true ⟨by omega, by omega, by omega, h4, h5, hm⟩
end Go.Abs
end

section
namespace Go.Abs
open Go
open Classical
set_option linter.unusedVariables false
set_option linter.unusedSimpArgs false
set_option linter.unnecessarySimpa false
def txtR (q : Rat) : By := rtxt q.num q.den
theorem qv_low (x : Fr) : (qv x).num = iV (lowP x) (lowN x) ∧ (qv x).den = lowD x := by
  have hc : (iV (lowP x) (lowN x)).natAbs.Coprime (lowD x) := by rw [iV_abs]; exact low_cop x
  have hp := lowD_pos x
  have e : qv x = Rat.mk' (iV (lowP x) (lowN x)) (lowD x) (by omega) hc := by
    rw [Rat.mk_eq_divInt]
    unfold qv
    rw [divInt_eq (d1p _) (by omega)]
    exact low_eqX x
  rw [e]; exact ⟨rfl, rfl⟩
theorem txtQ_eq (x : Fr) : txtQ x = txtR (qv x) := by unfold txtQ txtR; rw [(qv_low x).1, (qv_low x).2]
theorem neg_dv (n : Int) (d : Int) : -(Rat.divInt n d) = Rat.divInt (-n) d := by rw [Rat.neg_divInt]
def negF (x : Fr) : Fr := lowX (!x.1 && decide (val x.2.1 ≠ 0), words (val x.2.1), x.2.2)
theorem negR {x : Fr} {k : Nat} (h : okX x k) (hk : k ≤ 15000) : rat_Neg x.1 x.2.1 x.2.2 (negF x) ∧ qv (negF x) = -(qv x) ∧ okX (negF x) (k + 1) := by
  have hz : okX ((!x.1 && decide (val x.2.1 ≠ 0), words (val x.2.1), x.2.2) : Fr) k := ⟨WS_words _, h.2.1, by have := wl h.1; have := h.2.2.1; dsimp only; omega, h.2.2.2⟩
  obtain ⟨m1, m2, m3⟩ := makeR hz (by omega)
  refine ⟨?_, ?_, m3⟩
  · unfold rat_Neg whole_Neg
    have hm := whole_Make_says (!x.1) x.2.1 h.1 (by have := h.2.2.1; omega)
    refine ⟨_, _, IfB.bool (fun e => ?_) (fun e => ?_), _, _, _, m1, rfl⟩
    · rw [e] at hm ⊢; exact ⟨_, _, hm, rfl⟩
    · rw [e] at hm ⊢; exact ⟨_, _, hm, rfl⟩
  · show qv (lowX _) = _
    rw [m2]
    unfold qv
    dsimp only
    rw [val_words, neg_dv]
    congr 1
    unfold iV
    cases x.1 with
    | true => simp
    | false => by_cases h0 : val x.2.1 = 0 <;> simp [h0]
def termWq (first : Bool) (q : Rat) (v : By) : Ws := if q < 0 then [[45], txtR (-q), v] else if first then [txtR q, v] else [[43], txtR q, v]
def sumGo (all : Bool) : Bool → List Rat → Ws → Ws
  | first, q :: l, v :: V => if all = false ∧ q = 0 then sumGo all first l V else termWq first q v ++ sumGo all false l V
  | _, _, _ => []
def sumTW (all : Bool) (V : Ws) (l : List Rat) : Ws := if sumGo all true l V = [] then [[48]] else sumGo all true l V
theorem termWq_ne (first : Bool) (q : Rat) (v : By) : termWq first q v ≠ [] := by unfold termWq; split <;> (try split) <;> simp
theorem sumTW_ne (all : Bool) (V : Ws) (l : List Rat) : sumTW all V l ≠ [] := by unfold sumTW; split <;> simp [*]
def okL (l : List Fr) (k : Nat) : Prop := ∀ x, x ∈ l → okX x k
theorem text_term {out : Ws} {q : Rat} {x : Fr} {v : By} {k : Nat} (hx : okX x k) (hk : k ≤ 15000) (hq : qv x = q) (ho : out.length ≤ 1000000) {i : Int} {V : Ws} (hi : Idx V i v) {X : Ws → Prop}
    (h : X (out ++ termWq (decide (out = [])) q v)) {c : Int} (hc : c < 0 ↔ qv x < 0) :
    IfB (decide (c < (0 : Int)))
     (Fits (out.length + [([45] : List UInt8)].length) 16 ∧ ∃ (x10 : Bool) (x11 : List Int) (x12 : List Int), rat_Neg x.1 x.2.1 x.2.2 (x10, x11, x12) ∧ ∃ (x14 : By), rat_Text x10 x11 x12 x14 ∧ ∃ (x16 : By), Idx V i x16 ∧
       Fits ((out ++ [([45] : List UInt8)]).length + [x14, x16].length) 16 ∧ X ((out ++ [([45] : List UInt8)]) ++ [x14, x16]))
     (IfB (decide ((out.length : Int) > (0 : Int)))
       (Fits (out.length + [([43] : List UInt8)].length) 16 ∧ ∃ (x21 : By), rat_Text x.1 x.2.1 x.2.2 x21 ∧ ∃ (x23 : By), Idx V i x23 ∧ Fits ((out ++ [([43] : List UInt8)]).length + [x21, x23].length) 16 ∧ X ((out ++ [([43] : List UInt8)]) ++ [x21, x23]))
       (∃ (x26 : By), rat_Text x.1 x.2.1 x.2.2 x26 ∧ ∃ (x28 : By), Idx V i x28 ∧ Fits (out.length + [x26, x28].length) 16 ∧ X (out ++ [x26, x28]))) := by
  have ht := rat_Text_says hx (by omega)
  rw [txtQ_eq, hq] at ht
  obtain ⟨n1, n2, n3⟩ := negR hx hk
  have hn := rat_Text_says n3 (by omega)
  rw [txtQ_eq, n2, hq] at hn
  rw [hq] at hc
  refine IfB.dec (fun hneg => ?_) (fun hpos => ?_)
  · refine ⟨by unfold Fits; simp; omega, _, _, _, n1, _, hn, v, hi, by unfold Fits; simp; omega, ?_⟩
    unfold termWq at h
    rw [if_pos (hc.1 hneg)] at h
    simpa using h
  · have hq0 : ¬ q < 0 := fun e => hpos (hc.2 e)
    unfold termWq at h
    rw [if_neg hq0] at h
    refine IfB.dec (fun h0 => ?_) (fun h0 => ?_)
    · have e : decide (out = []) = false := decide_eq_false fun e => by rw [e] at h0; simp at h0
      rw [e] at h
      refine ⟨by unfold Fits; simp; omega, _, ht, v, hi, by unfold Fits; simp; omega, ?_⟩
      simpa using h
    · have e : out = [] := List.length_eq_zero_iff.1 (by omega)
      subst e
      refine ⟨_, ht, v, hi, by unfold Fits; simp, ?_⟩
      simpa using h
theorem drop_at {α : Type} {l : List α} {k : Nat} (h : k < l.length) : l.drop k = l[k] :: l.drop (k + 1) := List.drop_eq_getElem_cons h
theorem sumGo_len : ∀ (all first : Bool) (l : List Rat) (V : Ws), (sumGo all first l V).length ≤ 3 * l.length
  | all, first, q :: l, v :: V => by
    unfold sumGo
    split
    · have := sumGo_len all first l V; simp; omega
    · have := sumGo_len all false l V
      have h3 : (termWq first q v).length ≤ 3 := by unfold termWq; split <;> (try split) <;> simp
      rw [List.length_append, List.length_cons]; omega
  | _, _, [], _ => by simp [sumGo]
  | _, _, _ :: _, [] => by simp [sumGo]
theorem model_text_says {V : Ws} {l : List Fr} {k : Nat} (hk : k ≤ 15000) (hl : l.length ≤ 1000) (hV : V.length = l.length) (ho : okL l k) (all : Bool) : model_text V l all (sumTW all V (l.map qv)) := by
  have INIT : ∃ j : Nat, (0 : Int) = j ∧ j ≤ l.length ∧ ([] : Ws) ++ sumGo all (decide (([] : Ws) = [])) ((l.map qv).drop j) (V.drop j) = sumGo all true (l.map qv) V ∧ ([] : Ws).length ≤ 3 * j := ⟨0, rfl, by omega, by simp, by simp⟩
  have END : ∀ out : Ws, out = sumGo all true (l.map qv) V → IfB ((out.length : Int) == (0 : Int)) (sumTW all V (l.map qv) = [([48] : List UInt8)]) (sumTW all V (l.map qv) = out) := fun out he => by
    refine IfB.eqi (fun h0 => ?_) (fun h0 => ?_)
    · have : out = [] := List.length_eq_zero_iff.1 (by omega)
      unfold sumTW; rw [if_pos (he ▸ this)]
    · unfold sumTW; rw [if_neg (fun e => h0 (by rw [he, e]; rfl)), he]
  unfold model_text
  refine IfB.bool (fun ha => ?_) (fun ha => ?_)
  · subst ha
    refine LoopP.intro (fun z : Int × Ws => ∃ j : Nat, z.1 = j ∧ j ≤ l.length ∧ z.2 ++ sumGo true (decide (z.2 = [])) ((l.map qv).drop j) (V.drop j) = sumGo true true (l.map qv) V ∧ z.2.length ≤ 3 * j) (fun z => l.length - z.1.toNat) INIT ?_
    rintro X ⟨z1, z2⟩ ⟨j, e1, hj, e2, e3⟩ hX
    simp only at e1 e2 e3
    subst e1
    unfold model_text_L1
    dsimp only
    refine IfB.dec (fun h => ?_) (fun h => ?_)
    · have hjl : j < l.length := by omega
      have hjV : j < V.length := by omega
      have hx := ho _ (List.getElem_mem hjl)
      obtain ⟨c, c1, _, _, c4⟩ := signR hx (by omega)
      rw [drop_at (by simpa using hjl), drop_at hjV] at e2
      have hw : IntKind.i64.wrap ((j : Int) + 1) = ((j + 1 : Nat) : Int) := by rw [wrap64' (by omega) (by omega)]; rfl
      rw [hw]
      refine ⟨_, _, _, Idx.nat hjl, c, c1, text_term (X := fun o => X (((j + 1 : Nat) : Int), o)) (q := (l.map qv)[j]'(by simpa using hjl)) (v := V[j]) hx hk (by simp) (by omega) (Idx.nat hjV) ?_ c4⟩
      refine hX _ ⟨j + 1, rfl, by omega, ?_, ?_⟩ (by dsimp only; omega)
      · dsimp only
        rw [show decide (z2 ++ termWq (decide (z2 = [])) ((l.map qv)[j]'(by simpa using hjl)) V[j] = []) = false from decide_eq_false fun e => termWq_ne _ _ _ (List.append_eq_nil_iff.1 e).2, ← e2, List.append_assoc]
        congr 1
      · have h3 : (termWq (decide (z2 = [])) ((l.map qv)[j]'(by simpa using hjl)) V[j]).length ≤ 3 := by unfold termWq; split <;> (try split) <;> simp
        simp only [List.length_append]; omega
    · have : j = l.length := by omega
      subst this
      rw [List.drop_of_length_le (by simp)] at e2
      exact END z2 (by rw [← e2]; simp [sumGo])
  · subst ha
    refine LoopP.intro (fun z : Int × Ws => ∃ j : Nat, z.1 = j ∧ j ≤ l.length ∧ z.2 ++ sumGo false (decide (z.2 = [])) ((l.map qv).drop j) (V.drop j) = sumGo false true (l.map qv) V ∧ z.2.length ≤ 3 * j) (fun z => l.length - z.1.toNat) INIT ?_
    rintro X ⟨z1, z2⟩ ⟨j, e1, hj, e2, e3⟩ hX
    simp only at e1 e2 e3
    subst e1
    unfold model_text_L2
    dsimp only
    refine IfB.dec (fun h => ?_) (fun h => ?_)
    · have hjl : j < l.length := by omega
      have hjV : j < V.length := by omega
      have hx := ho _ (List.getElem_mem hjl)
      obtain ⟨c, c1, c2, _, c4⟩ := signR hx (by omega)
      rw [drop_at (by simpa using hjl), drop_at hjV] at e2
      have hw : IntKind.i64.wrap ((j : Int) + 1) = ((j + 1 : Nat) : Int) := by rw [wrap64' (by omega) (by omega)]; rfl
      rw [hw]
      have hql : (l.map qv)[j]'(by simpa using hjl) = qv l[j] := by simp
      refine ⟨_, _, _, Idx.nat hjl, c, c1, IfB.eqi (fun h0 => ?_) (fun h0 => ⟨c, c1, text_term (X := fun o => X (((j + 1 : Nat) : Int), o)) (q := (l.map qv)[j]'(by simpa using hjl)) (v := V[j]) hx hk (by simp) (by omega) (Idx.nat hjV) ?_ c4⟩)⟩
      · refine hX _ ⟨j + 1, rfl, by omega, ?_, by dsimp only; omega⟩ (by dsimp only; omega)
        dsimp only
        have e0 : sumGo false (decide (z2 = [])) ((l.map qv)[j]'(by simpa using hjl) :: (l.map qv).drop (j + 1)) (V[j] :: V.drop (j + 1)) = sumGo false (decide (z2 = [])) ((l.map qv).drop (j + 1)) (V.drop (j + 1)) := by
          conv => lhs; unfold sumGo
          exact if_pos ⟨rfl, by rw [hql]; exact c2.1 h0⟩
        rw [e0] at e2
        exact e2
      · refine hX _ ⟨j + 1, rfl, by omega, ?_, ?_⟩ (by dsimp only; omega)
        · dsimp only
          rw [show decide (z2 ++ termWq (decide (z2 = [])) ((l.map qv)[j]'(by simpa using hjl)) V[j] = []) = false from decide_eq_false fun e => termWq_ne _ _ _ (List.append_eq_nil_iff.1 e).2, ← e2, List.append_assoc]
          congr 1
          conv => rhs; unfold sumGo
          rw [if_neg (fun h => h0 (c2.2 (by rw [← hql]; exact h.2)))]
        · have h3 : (termWq (decide (z2 = [])) ((l.map qv)[j]'(by simpa using hjl)) V[j]).length ≤ 3 := by unfold termWq; split <;> (try split) <;> simp
          simp only [List.length_append]; omega
    · have : j = l.length := by omega
      subst this
      rw [List.drop_of_length_le (by simp)] at e2
      exact END z2 (by rw [← e2]; simp [sumGo])
end Go.Abs
end

section
namespace Go.Abs
open Go
open Classical
set_option linter.unusedVariables false
set_option linter.unusedSimpArgs false
set_option linter.unnecessarySimpa false
def relT (rel : Int) : By := if rel = -1 then [60, 61] else if rel = 0 then [61] else [62, 61]
def rowWq (V : Ws) (name : By) (c : List Rat) (rel : Int) (b : Rat) : Ws := (name ++ [58]) :: (sumTW false V c ++ [relT rel, txtR b])
abbrev QRow := By × List Rat × Int × Rat
def qrow (r : MRow) : QRow := (r.1, r.2.1.map qv, r.2.2.1, qv r.2.2.2)
def printQ (V : Ws) (C : List Rat) (R : List QRow) : List Ws := (minB :: sumTW true V C) :: R.map fun r => rowWq V r.1 r.2.1 r.2.2.1 r.2.2.2
def printW8 (V : Ws) (C : List Fr) (R : List MRow) : List Ws := printQ V (C.map qv) (R.map qrow)
theorem wlen_line {ws : Ws} (h : ws ≠ []) : wlen ws = (lineT ws).length + 1 := by
  cases ws with
  | nil => exact absurd rfl h
  | cons x l =>
    unfold lineT
    rw [Lib.join_cons, List.length_append, tail_len]
    simp [wlen]; omega
theorem linesT_app : ∀ (a b : List Ws), linesT (a ++ b) = linesT a ++ linesT b
  | [], b => rfl
  | ws :: a, b => by rw [List.cons_append, linesT, linesT, linesT_app a b, List.append_assoc]; rfl
theorem linesT_mem : ∀ {l : List Ws} {ws : Ws}, ws ∈ l → (lineT ws).length + 1 ≤ (linesT l).length
  | x :: l, ws, h => by
    rw [linesT, List.length_append, List.length_cons]
    rcases List.mem_cons.1 h with rfl | h
    · omega
    · have := linesT_mem h; omega
theorem relT_idx {rel : Int} (h1 : -1 ≤ rel) (h2 : rel ≤ 1) : Idx ([([60, 61] : By), ([61] : By), ([62, 61] : By)] : Ws) (IntKind.i64.wrap (rel + 1)) (relT rel) := by
  rw [wrap64' (by omega) (by omega)]
  rcases (show rel = -1 ∨ rel = 0 ∨ rel = 1 by omega) with rfl | rfl | rfl
  · exact ⟨by omega, rfl⟩
  · exact ⟨by omega, rfl⟩
  · exact ⟨by omega, rfl⟩
def okR (R : List MRow) (k : Nat) : Prop := ∀ r, r ∈ R → okL r.2.1 k ∧ okX r.2.2.2 k
theorem print_row {V : Ws} {r : MRow} {k : Nat} {s : By} {K : By → Prop} (hk : k ≤ 15000) (hv : V.length ≤ 60) (hc : r.2.1.length = V.length) (h1 : -1 ≤ r.2.2.1) (h2 : r.2.2.1 ≤ 1) (ho : okL r.2.1 k) (hb : okX r.2.2.2 k)
    (hs : s.length ≤ 1000000) (hn : r.1.length ≤ 1000000) (hw : (lineT (rowWq V r.1 (r.2.1.map qv) r.2.2.1 (qv r.2.2.2))).length ≤ 900000) (hK : K (s ++ (lineT (rowWq V r.1 (r.2.1.map qv) r.2.2.1 (qv r.2.2.2)) ++ [10]))) :
    Fits (r.1.length + ([58] : List UInt8).length) 1 ∧
    ∃ (x18 : Ws), model_text V r.2.1 false x18 ∧
     IfB x18.isEmpty
      (∃ (x21 : By), Idx ([([60, 61] : By), ([61] : By), ([62, 61] : By)] : Ws) (IntKind.i64.wrap (r.2.2.1 + 1)) x21 ∧
       ∃ (x23 : By), rat_Text r.2.2.2.1 r.2.2.2.2.1 r.2.2.2.2.2 x23 ∧
       Fits ([(r.1 ++ ([58] : By))].length + [x21, x23].length) 16 ∧
       ∃ (x26 : By), lines_Join ([(r.1 ++ ([58] : By))] ++ [x21, x23]) x26 ∧
       Fits (x26.length + ([10] : By).length) 1 ∧ Fits (s.length + (x26 ++ ([10] : By)).length) 1 ∧ K (s ++ (x26 ++ ([10] : By))))
      (Fits ([(r.1 ++ ([58] : By))].length + x18.length) 16 ∧
       ∃ (x31 : By), Idx ([([60, 61] : By), ([61] : By), ([62, 61] : By)] : Ws) (IntKind.i64.wrap (r.2.2.1 + 1)) x31 ∧
       ∃ (x33 : By), rat_Text r.2.2.2.1 r.2.2.2.2.1 r.2.2.2.2.2 x33 ∧
       Fits (([(r.1 ++ ([58] : By))] ++ x18).length + [x31, x33].length) 16 ∧
       ∃ (x36 : By), lines_Join (([(r.1 ++ ([58] : By))] ++ x18) ++ [x31, x33]) x36 ∧
       Fits (x36.length + ([10] : By).length) 1 ∧ Fits (s.length + (x36 ++ ([10] : By)).length) 1 ∧ K (s ++ (x36 ++ ([10] : By)))) := by
  have ht := rat_Text_says hb (by omega)
  rw [txtQ_eq] at ht
  have hlen : (sumTW false V (r.2.1.map qv)).length ≤ 3 * V.length + 1 := by
    have := sumGo_len false true (r.2.1.map qv) V
    unfold sumTW
    split
    · simp
    · rw [List.length_map] at this; omega
  have e : ([(r.1 ++ ([58] : By))] ++ sumTW false V (r.2.1.map qv)) ++ [relT r.2.2.1, txtR (qv r.2.2.2)] = rowWq V r.1 (r.2.1.map qv) r.2.2.1 (qv r.2.2.2) := by simp [rowWq]
  have hj := lines_Join_says (l := rowWq V r.1 (r.2.1.map qv) r.2.2.1 (qv r.2.2.2)) (by rw [wlen_line (by simp [rowWq])]; omega)
  refine ⟨by unfold Fits; simp; omega, _, model_text_says hk (by omega) hc.symm ho false, ?_⟩
  have hne : (sumTW false V (r.2.1.map qv)).isEmpty = false := by simp [sumTW_ne]
  rw [hne]
  refine IfB_false.2 ⟨by unfold Fits; simp; omega, _, relT_idx h1 h2, _, ht, by unfold Fits; simp; omega, _, by rw [e]; exact hj, by unfold Fits; simp; omega, by unfold Fits; simp; omega, hK⟩
theorem model_Print_says {V : Ws} {C : List Fr} {R : List MRow} {k : Nat} (hk : k ≤ 15000) (hm : MayM V C R) (hC : okL C k) (hR : okR R k) (hl : (linesT (printW8 V C R)).length ≤ 65536) : model_Print V C R (linesT (printW8 V C R), 0) := by
  obtain ⟨m1, m2, m3, m4, m5, m6⟩ := hm
  unfold model_Print
  refine ⟨_, model_Right_says V C R, ?_⟩
  rw [decide_eq_true (show MayM V C R from ⟨m1, m2, m3, m4, m5, m6⟩)]
  refine IfB_true.2 ⟨_, model_text_says hk (by omega) m2.symm hC true, ?_⟩
  have hne : (sumTW true V (C.map qv)).isEmpty = false := by simp [sumTW_ne]
  have hlen : (sumTW true V (C.map qv)).length ≤ 3 * V.length + 1 := by
    have := sumGo_len true true (C.map qv) V
    unfold sumTW
    split
    · simp
    · rw [List.length_map] at this; omega
  rw [hne]
  have hP : printW8 V C R = (minB :: sumTW true V (C.map qv)) :: R.map fun r => rowWq V r.1 (r.2.1.map qv) r.2.2.1 (qv r.2.2.2) := by
    unfold printW8 printQ; rw [List.map_map]; rfl
  have h0 : (lineT (minB :: sumTW true V (C.map qv))).length + 1 ≤ 65536 := Nat.le_trans (linesT_mem (by rw [hP]; simp)) hl
  have hj := lines_Join_says (l := minB :: sumTW true V (C.map qv)) (by rw [wlen_line (by simp)]; omega)
  refine IfB_false.2 ⟨by unfold Fits; simp; omega, _, hj, by unfold Fits; simp; omega, ?_⟩
  have hrow : ∀ r, r ∈ R → (lineT (rowWq V r.1 (r.2.1.map qv) r.2.2.1 (qv r.2.2.2))).length + 1 ≤ 65536 := fun r hr => Nat.le_trans (linesT_mem (by rw [hP]; exact List.mem_cons_of_mem _ (List.mem_map.2 ⟨r, hr, rfl⟩))) hl
  refine LoopP.intro (fun z : By × Int => ∃ j : Nat, z.2 = j ∧ j ≤ R.length ∧ z.1 = linesT ((minB :: sumTW true V (C.map qv)) :: (R.take j).map fun r => rowWq V r.1 (r.2.1.map qv) r.2.2.1 (qv r.2.2.2))) (fun z => R.length - z.2.toNat) ⟨0, rfl, by omega, by simp [linesT]⟩ ?_
  rintro X ⟨z1, z2⟩ ⟨j, e1, hj, e2⟩ hX
  simp only at e1 e2
  subst e1
  have hz : z1.length ≤ 65536 := by
    have : (linesT (printW8 V C R)).length = z1.length + (linesT ((R.drop j).map fun r => rowWq V r.1 (r.2.1.map qv) r.2.2.1 (qv r.2.2.2))).length := by
      rw [hP, e2, ← List.length_append, ← linesT_app, List.cons_append, ← List.map_append, List.take_append_drop]
    omega
  unfold model_Print_L2
  dsimp only
  refine IfB.dec (fun h => ?_) (fun h => ?_)
  · have hjl : j < R.length := by omega
    have hmem := List.getElem_mem hjl
    have hr := m6 _ hmem
    have hn16 : R[j].1.length ≤ 16 := (m5.2 _ (List.mem_map.2 ⟨_, hmem, rfl⟩)).2.1
    have hw : IntKind.i64.wrap ((j : Int) + 1) = ((j + 1 : Nat) : Int) := by rw [wrap64' (by omega) (by omega)]; rfl
    rw [hw]
    refine ⟨_, _, _, _, _, _, Idx.nat hjl, ?_⟩
    refine print_row (r := R[j]) (s := z1) (K := fun t => X (t, ((j + 1 : Nat) : Int))) hk m1 hr.1 hr.2.1 hr.2.2 (hR _ hmem).1 (hR _ hmem).2 (by omega) (by omega) (by have := hrow _ hmem; omega) ?_
    refine hX _ ⟨j + 1, rfl, by omega, ?_⟩ (by dsimp only; omega)
    dsimp only
    rw [take_succ hjl, List.map_append, ← List.cons_append, linesT_app, ← e2]
    simp [linesT]
  · have : j = R.length := by omega
    subst this
    rw [List.take_length, ← hP] at e2
    rw [e2]
end Go.Abs
end
