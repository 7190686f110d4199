/- Part of a proof, in few files: L8s. -/
import Derived.Test.YtdbfgnpobfbfmaaGreatDoorMAgK27

section
namespace Go.Abs
open Go
open Classical
set_option linter.unusedVariables false
set_option linter.unusedSimpArgs false
set_option linter.unnecessarySimpa false
theorem wlen_app (a b : Ws) : wlen (a ++ b) = wlen a + wlen b := by simp [wlen]
theorem wlen_drop (l : Ws) (k : Nat) : wlen (l.drop k) ≤ wlen l := by
  have := wlen_app (l.take k) (l.drop k)
  rw [List.take_append_drop] at this; omega
theorem wlen_take (l : Ws) (k : Nat) : wlen (l.take k) ≤ wlen l := by
  have := wlen_app (l.take k) (l.drop k)
  rw [List.take_append_drop] at this; omega
def costLn (x : Ln8) : Nat := costTs x.2.1 + x.2.2.2.length
theorem line_cost {k : Nat} {ws : Ws} {x : Ln8} (h : lineS k ws = some x) : costLn x ≤ 12 * wlen ws := by
  unfold lineS at h
  split at h
  · unfold firstS at h
    split at h
    · simp only [Option.map_eq_some_iff] at h
      obtain ⟨ts, h1, rfl⟩ := h
      have := sumW_cost h1
      have h2 := wlen_drop ws 1
      rw [List.drop_one] at h2
      unfold costLn; dsimp only; simp; omega
    · cases h
  · have hm := (rowS_ok h).2.mem
    have h3 := wlen_mem8 hm
    unfold rowS at h
    split at h
    · simp only [Option.map_eq_some_iff] at h
      obtain ⟨ts, h1, rfl⟩ := h
      have h2 := sumW_cost h1
      have h4 : wlen (midW ws) ≤ wlen ws := Nat.le_trans (wlen_take _ _) (wlen_drop _ _)
      unfold costLn; dsimp only at h3 ⊢; omega
    · cases h
def sumLn (l : List Ln8) : Nat := (l.map costLn).sum
def sumP (l : Ls) : Nat := (l.map fun p => wlen p.2).sum
theorem fold_cost : ∀ (r : Ls) (k : Nat) (st st' : St8), foldM k st r = .inr st' → sumLn st'.2 ≤ sumLn st.2 + 12 * sumP r
  | [], k, st, st', h => by cases h; omega
  | p :: r, k, st, st', h => by
    cases he : stepM k st p.2 with
    | inl e' => rw [foldM_inl he] at h; cases h
    | inr st1 =>
      rw [foldM_inr he] at h
      have ih := fold_cost r (k + 1) st1 st' h
      have e : sumP (p :: r) = wlen p.2 + sumP r := by simp [sumP]
      have : sumLn st1.2 ≤ sumLn st.2 + 12 * wlen p.2 := by
        unfold stepM at he
        split at he
        · cases he
        · rename_i x hx
          split at he
          · cases he
          · split at he
            · cases he
            · cases he
              have := line_cost hx
              have e2 : sumLn (st.2 ++ [x]) = sumLn st.2 + costLn x := by simp [sumLn]
              dsimp only; omega
      omega
theorem split_sum {c : UInt8} : ∀ s : By, ((splitC c s).map fun x => x.length + 1).sum = s.length + 1
  | [] => by simp [splitC]
  | b :: l => by
    have ih := split_sum (c := c) l
    unfold splitC
    split
    · simp only [List.map_cons, List.sum_cons, List.length_nil, List.length_cons]; omega
    · cases hs : splitC c l with
      | nil => rw [hs] at ih; simp at ih
      | cons x r =>
        rw [hs] at ih
        simp only [List.map_cons, List.sum_cons, List.length_cons] at ih ⊢; omega
theorem lines_sum : ∀ (l : List By) (k : Int), sumP (linesFrom k l) ≤ (l.map fun x => x.length + 1).sum
  | [], k => by simp [linesFrom, sumP]
  | x :: l, k => by
    have ih := lines_sum l (k + 1)
    have hw : wlen (wordsOf x) ≤ x.length + 1 := by
      have h1 := fields_wlen (head35 x) []
      have h2 := (head_mem (s := x)).2
      unfold wordsOf Lib.fields
      simp at h1; omega
    unfold linesFrom
    rw [List.map_cons, List.sum_cons]
    split
    · have e : sumP ((k + 1, wordsOf x) :: linesFrom (k + 1) l) = wlen (wordsOf x) + sumP (linesFrom (k + 1) l) := by simp [sumP]
      rw [e]; omega
    · omega
theorem allL_sum (s : By) : sumP (allL s) ≤ s.length + 1 := by
  have h1 := lines_sum (splitC 10 s) 0
  have h2 := split_sum (c := 10) s
  unfold allL; exact Nat.le_trans h1 (Nat.le_of_eq h2)
def zc (all : Bool) (q : Rat) : Nat := if all = false ∧ q = 0 then 0 else 20 + tl q
theorem go_wlen : ∀ (all first : Bool) (l : List Rat) (V : Ws), (∀ v, v ∈ V → v.length ≤ 16) → wlen (sumGo all first l V) ≤ (l.map (zc all)).sum
  | all, first, q :: l, v :: V, hV => by
    have hV' : ∀ x, x ∈ V → x.length ≤ 16 := fun x hx => hV x (by simp [hx])
    have hv := hV v (by simp)
    unfold sumGo
    rw [List.map_cons, List.sum_cons]
    by_cases hc : all = false ∧ q = 0
    · rw [if_pos hc]
      have := go_wlen all first l V hV'
      omega
    · rw [if_neg hc, wlen_app]
      have ih := go_wlen all false l V hV'
      have hz : zc all q = 20 + tl q := if_neg hc
      have ht : wlen (termWq first q v) ≤ 20 + tl q := by
        have ha := txtR_abs q
        unfold absQ at ha
        unfold termWq
        split
        · rename_i h; rw [if_pos h] at ha
          simp [wlen]; omega
        · rename_i h; rw [if_neg h] at ha
          split <;> simp [wlen] <;> omega
      omega
  | _, _, [], _, _ => by simp [sumGo, wlen]
  | _, _, _ :: _, [], _ => by simp [sumGo, wlen]
theorem sumTW_wlen {all : Bool} {l : List Rat} {V : Ws} (hV : ∀ v, v ∈ V → v.length ≤ 16) : wlen (sumTW all V l) ≤ 2 + (l.map (zc all)).sum := by
  have := go_wlen all true l V hV
  unfold sumTW
  split
  · simp [wlen]
  · omega
theorem sum_upd {α : Type} [DecidableEq α] {f : α → Nat} {a : α} {x : Nat} : ∀ {V : List α}, V.Nodup → (V.map fun v => if a = v then x else f v).sum ≤ (V.map f).sum + x
  | [], _ => by simp
  | v :: V, h => by
    have hn := List.nodup_cons.1 h
    rw [List.map_cons, List.sum_cons, List.map_cons, List.sum_cons]
    by_cases hv : a = v
    · rw [if_pos hv]
      have : (V.map fun v => if a = v then x else f v) = V.map f := List.map_congr_left fun u hu => if_neg fun e => hn.1 (by rw [← hv, e]; exact hu)
      rw [this]; omega
    · rw [if_neg hv]
      have := sum_upd (f := f) (a := a) (x := x) hn.2
      omega
theorem last_sum {all : Bool} {V : Ws} (hn : V.Nodup) : ∀ (ts : List Tm) (w : By → Fr), (∀ t, t ∈ ts → ∀ u, t.2.1 = some u → isN u) → (V.map fun v => zc all (qv (lastV v ts (w v)))).sum ≤ (V.map fun v => zc all (qv (w v))).sum + costTs ts
  | [], w, h => by simp [lastV, costTs]
  | t :: ts, w, h => by
    have ih := last_sum (all := all) hn ts (fun v => if t.2.2 = v then tmV t else w v) (fun u hu => h u (by simp [hu]))
    have e : (V.map fun v => zc all (qv (lastV v (t :: ts) (w v)))) = V.map fun v => zc all (qv (lastV v ts (if t.2.2 = v then tmV t else w v))) := rfl
    rw [e]
    have e2 : (V.map fun v => zc all (qv (if t.2.2 = v then tmV t else w v))) = V.map fun v => if t.2.2 = v then zc all (qv (tmV t)) else zc all (qv (w v)) := List.map_congr_left fun v hv => by split <;> rfl
    have h1 := sum_upd (f := fun v => zc all (qv (w v))) (a := t.2.2) (x := zc all (qv (tmV t))) hn
    rw [← e2] at h1
    have h2 : zc all (qv (tmV t)) ≤ costTm t := by
      have := (tm_tl (t := t) (h t (by simp))).1
      unfold zc costTm
      split
      · omega
      · unfold oLen at this
        split at this <;> omega
    have e3 : costTs (t :: ts) = costTm t + costTs ts := by simp [costTs]
    omega
theorem dense_map {V : Ws} {ts : List Tm} (hn : V.Nodup) (hm : ∀ t, t ∈ ts → t.2.2 ∈ V) : denseF V (ts.map tmM) = V.map fun v => lastV v ts zeroF := by
  apply List.ext_getElem?
  intro k
  rcases Nat.lt_or_ge k V.length with hk | hk
  · rw [denseF_at hk hn hm, List.getElem?_map, List.getElem?_eq_getElem hk]; rfl
  · rw [List.getElem?_eq_none (by rw [denseF_len]; exact hk), List.getElem?_eq_none (by simpa using hk)]
theorem dense_cost {all : Bool} {V : Ws} {ts : List Tm} (hn : V.Nodup) (hm : ∀ t, t ∈ ts → t.2.2 ∈ V) (hs : ∀ t, t ∈ ts → ∀ u, t.2.1 = some u → isN u) : (((denseF V (ts.map tmM)).map qv).map (zc all)).sum ≤ V.length * zc all 0 + costTs ts := by
  rw [dense_map hn hm, List.map_map, List.map_map]
  have := last_sum (all := all) hn ts (fun _ => zeroF) hs
  have e : (V.map fun v => zc all (qv zeroF)).sum = V.length * zc all 0 := by rw [zeroR.2.1]; simp [List.map_const']
  rw [e] at this
  exact this
theorem lastV_short (s : By) : ∀ (ts : List Tm) (w : Fr), (∀ t, t ∈ ts → ∀ u, t.2.1 = some u → isN u) → Short10 (qv w) → Short10 (qv (lastV s ts w))
  | [], w, _, h => h
  | t :: ts, w, hs, h => by
    show Short10 (qv (lastV s ts (if t.2.2 = s then tmV t else w)))
    refine lastV_short s ts _ (fun u hu => hs u (by simp [hu])) ?_
    split
    · exact (tm_tl (t := t) (hs t (by simp))).2
    · exact h
theorem dense_short {V : Ws} {ts : List Tm} (hn : V.Nodup) (hm : ∀ t, t ∈ ts → t.2.2 ∈ V) (hs : ∀ t, t ∈ ts → ∀ u, t.2.1 = some u → isN u) : ∀ x, x ∈ denseF V (ts.map tmM) → Short10 (qv x) := by
  intro x hx
  rw [dense_map hn hm] at hx
  obtain ⟨v, _, rfl⟩ := List.mem_map.1 hx
  exact lastV_short v ts zeroF hs (by rw [zeroR.2.1]; exact short_zero.1)
theorem linesT_wlen : ∀ (l : List Ws), (∀ ws, ws ∈ l → ws ≠ []) → (linesT l).length = (l.map wlen).sum
  | [], _ => by simp [linesT]
  | ws :: l, h => by
    have ih := linesT_wlen l fun w hw => h w (by simp [hw])
    rw [linesT, List.length_append, List.length_cons, ih, List.map_cons, List.sum_cons, wlen_line (h ws (by simp))]; omega
theorem sum_le {α : Type} {f g : α → Nat} : ∀ (l : List α), (∀ x, x ∈ l → f x ≤ g x) → (l.map f).sum ≤ (l.map g).sum
  | [], _ => by simp
  | x :: l, h => by
    have := sum_le (f := f) (g := g) l fun y hy => h y (by simp [hy])
    have := h x (by simp)
    simp only [List.map_cons, List.sum_cons]; omega
theorem sum_add {α : Type} {f : α → Nat} {c : Nat} : ∀ (l : List α), (l.map fun x => c + f x).sum = c * l.length + (l.map f).sum
  | [] => by simp
  | x :: l => by
    have := sum_add (f := f) (c := c) l
    simp only [List.map_cons, List.sum_cons, List.length_cons, Nat.mul_add, Nat.mul_one]; omega
theorem read_len {k : Nat} {st : St8} {n : Nat} (hi : InvS k st) (hk : 1 ≤ k) (hs : ∀ x, x ∈ st.2 → numsOK x.2.1) (hc : sumLn st.2 ≤ n) : (linesT (printW8 st.1 (denseF st.1 (costT st)) (rowsD st))).length ≤ 2800 + n := by
  obtain ⟨V, lns⟩ := st
  obtain ⟨x0, xs, rfl⟩ : ∃ x0 xs, lns = x0 :: xs := by
    cases lns with
    | nil => have := hi.len; simp at this; omega
    | cons x0 xs => exact ⟨x0, xs, rfl⟩
  have hv := hi.v60
  have hn := hi.nd
  have h16 : ∀ v, v ∈ V → v.length ≤ 16 := fun v hv => (hi.nm v hv).2.1
  have hlen := hi.len
  have h61 := hi.r61
  dsimp only at hv hn hlen
  have hxs : xs.length ≤ 60 := by simp at hlen; omega
  have hcost : costT (V, x0 :: xs) = x0.2.1.map tmM := rfl
  have hrows : rowsD (V, x0 :: xs) = xs.map fun x => rowRec x (denseF V (x.2.1.map tmM)) := rfl
  have hnum : ∀ x, x ∈ x0 :: xs → ∀ t, t ∈ x.2.1 → ∀ u, t.2.1 = some u → isN u := fun x hx t ht u hu => (hs x hx t ht u hu).1
  rw [hcost, hrows]
  have hP : printW8 V (denseF V (x0.2.1.map tmM)) (xs.map fun x => rowRec x (denseF V (x.2.1.map tmM))) = (minB :: sumTW true V ((denseF V (x0.2.1.map tmM)).map qv)) :: xs.map fun x => rowWq V x.1 ((denseF V (x.2.1.map tmM)).map qv) x.2.2.1 (qv (numOf x.2.2.2)) := by
    unfold printW8 printQ; rw [List.map_map, List.map_map]; rfl
  dsimp only
  rw [hP, linesT_wlen _ (fun ws hws => by
    rcases List.mem_cons.1 hws with rfl | hws
    · simp
    · obtain ⟨x, _, rfl⟩ := List.mem_map.1 hws; simp [rowWq]), List.map_cons, List.sum_cons, List.map_map]
  have f1 : wlen (minB :: sumTW true V ((denseF V (x0.2.1.map tmM)).map qv)) ≤ 1266 + costLn x0 := by
    have h1 := sumTW_wlen (all := true) (l := (denseF V (x0.2.1.map tmM)).map qv) h16
    have h2 := dense_cost (all := true) hn (hi.sub x0 (by simp)) (hnum x0 (by simp))
    have h3 : zc true 0 = 21 := by unfold zc; rw [if_neg (by simp), short_zero.2]
    rw [h3] at h2
    rw [wlen_cons]
    have h4 : minB.length = 3 := rfl
    have h5 : costTs x0.2.1 ≤ costLn x0 := by unfold costLn; omega
    omega
  have f2 : (xs.map (wlen ∘ fun x => rowWq V x.1 ((denseF V (x.2.1.map tmM)).map qv) x.2.2.1 (qv (numOf x.2.2.2)))).sum ≤ (xs.map fun x => 25 + costLn x).sum := sum_le xs fun x hx => by
    have hm : x ∈ x0 :: xs := by simp [hx]
    have h1 := sumTW_wlen (all := false) (l := (denseF V (x.2.1.map tmM)).map qv) h16
    have h2 := dense_cost (all := false) hn (hi.sub x hm) (hnum x hm)
    have h3 : zc false 0 = 0 := by unfold zc; rw [if_pos ⟨rfl, rfl⟩]
    rw [h3] at h2
    have hr := hi.rok x (by show x ∈ xs; exact hx)
    have hnm := hr.1.2.1
    have h4 := (numOf_tl hr.2.2).1
    have h5 := txtR_tl (qv (numOf x.2.2.2))
    have h6 : (relT x.2.2.1).length ≤ 2 := by unfold relT; split <;> (try split) <;> simp
    show wlen (rowWq V x.1 ((denseF V (x.2.1.map tmM)).map qv) x.2.2.1 (qv (numOf x.2.2.2))) ≤ _
    unfold rowWq
    rw [wlen_cons, wlen_app, wlen_cons, wlen_cons, List.length_append]
    have h7 : wlen [] = 0 := rfl
    unfold costLn
    simp only [List.length_cons, List.length_nil]
    omega
  rw [sum_add] at f2
  have e : sumLn (x0 :: xs) = costLn x0 + (xs.map costLn).sum := by simp [sumLn]
  dsimp only at hc
  omega
theorem law_magain (s : By) : offcutlaw08_ModelAgain s true := by
  unfold offcutlaw08_ModelAgain
  refine IfB.dec (fun _ => awk8 _ _ rfl) (fun hs2 => ?_)
  have hs : s.length ≤ 65536 := by omega
  by_cases hr : RightP s
  · refine ⟨_, _, _, _, _, model_Parse_says hs hr, ?_⟩
    cases hm : saysM s with
    | inl p =>
      obtain ⟨a, e⟩ := p
      have he : e ≠ 0 := by
        unfold saysM at hm
        split at hm
        · cases hm; decide
        · exact foldM_err _ _ _ hm
      exact IfB.nei (fun _ => awk8 _ _ rfl) (fun h => absurd h he)
    | inr st =>
      have hne : allL s ≠ [] := fun e => by unfold saysM at hm; rw [if_pos e] at hm; cases hm
      have hf : foldM 0 ([], []) (allL s) = .inr st := by unfold saysM at hm; rwa [if_neg hne] at hm
      have hi := foldM_inv _ 0 ([], []) st InvS.zero hf
      rw [Nat.zero_add] at hi
      have hpos : 1 ≤ (allL s).length := Nat.pos_of_ne_zero fun e => hne (List.length_eq_zero_iff.1 e)
      have hL := allLs_ok hs
      have hnum := foldM_nums hL (allL s) 0 ([], []) st (fun x hx => hx) (by simp) hf
      have hco := fold_cost (allL s) 0 ([], []) st hf
      have hsum := allL_sum s
      have hz : sumLn ([] : List Ln8) = 0 := rfl
      rw [hz] at hco
      have hlen := read_len hi hpos (fun x hx => (hnum x hx).1) (n := 24012) (by omega)
      have hMay := mayM_parsed hi hpos
      have hisN : ∀ x, x ∈ st.2 → ∀ t, t ∈ x.2.1 → ∀ u, t.2.1 = some u → isN u := fun x hx t ht u hu => ((hnum x hx).1 t ht u hu).1
      obtain ⟨x0, xs, hst⟩ : ∃ x0 xs, st.2 = x0 :: xs := by
        cases h : st.2 with
        | nil => have := hi.len; rw [h] at this; simp at this; omega
        | cons x0 xs => exact ⟨x0, xs, rfl⟩
      have hm0 : x0 ∈ st.2 := by rw [hst]; simp
      have hcT : costT st = x0.2.1.map tmM := by unfold costT sumsM; rw [hst]; rfl
      have sC : ∀ x, x ∈ denseF st.1 (costT st) → Short10 (qv x) := by rw [hcT]; exact dense_short hi.nd (hi.sub x0 hm0) (hisN x0 hm0)
      have oC : okL (denseF st.1 (costT st)) 10003 := by rw [hcT]; exact dense_ok hi.nd (hi.sub x0 hm0)
      have hdr : ∀ x, x ∈ st.2.drop 1 → x ∈ st.2 := fun x hx => List.mem_of_mem_drop hx
      have sR : ∀ r, r ∈ rowsD st → (∀ x, x ∈ r.2.1 → Short10 (qv x)) ∧ Short10 (qv r.2.2.2) := fun r hr => by
        obtain ⟨x, hx, rfl⟩ := List.mem_map.1 hr
        exact ⟨dense_short hi.nd (hi.sub x (hdr x hx)) (hisN x (hdr x hx)), (numOf_tl (hi.rok x hx).2.2).2⟩
      have oR : okR (rowsD st) 10003 := fun r hr => by
        obtain ⟨x, hx, rfl⟩ := List.mem_map.1 hr
        exact ⟨dense_ok hi.nd (hi.sub x (hdr x hx)), (numOf_okX _).mono (by omega)⟩
      have hQ := qmay_of hMay sC sR
      have hl2 : (linesT (printW8 st.1 (denseF st.1 (costT st)) (rowsD st))).length ≤ 65536 := by omega
      obtain ⟨C', R', hp, eC, eR, oC', oR', mM⟩ := parse_back hQ hl2
      have hsame : printW8 st.1 C' R' = printW8 st.1 (denseF st.1 (costT st)) (rowsD st) := by unfold printW8; rw [eC, eR]
      have hPr := model_Print_says (k := 10003) (by omega) hMay oC oR hl2
      have hPr2 := model_Print_says (k := 10003) (by omega) mM oC' oR' (by rw [hsame]; exact hl2)
      rw [hsame] at hPr2
      have hlC : C'.length ≤ 1000 := by have := mM.2.1; have := mM.1; omega
      have hv := vec_Same_says (k := 10003) (by omega) hlC oC' oC
      rw [show decide (vq C' = vq (denseF st.1 (costT st))) = true from decide_eq_true eC] at hv
      have hRl : R'.length = (rowsD st).length := by have := congrArg List.length eR; simpa using this
      refine IfB.nei (fun h => absurd rfl h) (fun _ => ⟨_, _, hPr, _, _, _, _, _, hp, _, _, hPr2, ?_⟩)
      exact IfB.eqi (fun _ => IfB.eqi (fun _ => IfB.eqi (fun _ => IfB.be (fun _ => ⟨true, hv, IfB_true.2 (IfB.eqi (fun _ => awk8 _ _ rfl) (fun h => absurd (by rw [hRl]) h))⟩) (fun h => absurd rfl h)) (fun h => absurd rfl h)) (fun h => absurd rfl h)) (fun h => absurd rfl h)
  · exact ⟨_, _, _, _, _, model_Parse_wrong hs hr, IfB.nei (fun _ => awk8 _ _ rfl) (fun h => absurd h (by decide))⟩
end Go.Abs
end
