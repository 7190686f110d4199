/- Chapter 10, plain: which stocks may be; a stock as it is read and printed. -/
import Derived.Test.YtlphadeogdbmmaaGreatDoorL10a
namespace Go.Abs
open Go
set_option linter.unusedVariables false
set_option linter.unusedSimpArgs false
set_option linter.unnecessarySimpa false

abbrev It := Int × Int
def itOK (x : It) : Prop := 1 ≤ x.1 ∧ x.1 ≤ 1048576 ∧ 0 ≤ x.2 ∧ x.2 ≤ 1024
instance (x : It) : Decidable (itOK x) := inferInstanceAs (Decidable (_ ∧ _))
def stOK (n : Int) (l : List It) : Prop := 1 ≤ n ∧ n ≤ 1048576 ∧ l.length ≤ 60 ∧ ∀ x, x ∈ l → itOK x
instance (n : Int) (l : List It) : Decidable (stOK n l) := inferInstanceAs (Decidable (_ ∧ _))

theorem stock_in_says (n a b : Int) : stock_in n a b (decide (a ≤ n ∧ n ≤ b)) := by
  unfold stock_in
  refine IfB.dec (fun h1 => IfB.dec (fun h2 => ?_) (fun h2 => ?_)) (fun h1 => ?_) <;> simp <;> omega
theorem stock_item_says (x y : Int) : stock_item x y (decide (itOK (x, y))) := by
  unfold stock_item
  refine ⟨_, stock_in_says _ _ _, IfB.dec (fun h1 => ⟨_, stock_in_says _ _ _, IfB.dec (fun h2 => ?_) (fun h2 => ?_)⟩) (fun h1 => ?_)⟩
  · exact decide_eq_true ⟨h1.1, h1.2, h2.1, h2.2⟩
  · exact decide_eq_false fun h => h2 ⟨h.2.2.1, h.2.2.2⟩
  · exact decide_eq_false fun h => h1 ⟨h.1, h.2.1⟩
theorem stock_Right_1_says (x y : Int) : stock_Right_1 x y (!decide (itOK (x, y))) := by
  unfold stock_Right_1
  refine ⟨_, stock_item_says x y, IfB.dec (fun h => ?_) (fun h => ?_)⟩ <;> simp [h]

theorem stock_Right_says (n : Int) (l : List It) : stock_Right n l (decide (stOK n l)) := by
  unfold stock_Right
  refine ⟨_, stock_in_says _ _ _, IfB.dec (fun h1 => IfB.dec (fun h2 => ?_) (fun h2 => ?_)) (fun h1 => ?_)⟩
  · refine LoopP.intro (fun z : Int => ∃ k : Nat, z = k ∧ k ≤ l.length ∧ ∀ x, x ∈ l.take k → itOK x) (fun z => l.length - z.toNat) ⟨0, rfl, Nat.zero_le _, by simp⟩ ?_
    rintro X _ ⟨k, rfl, hk, hok⟩ hX
    unfold stock_Right_L1
    refine IfB.dec (fun hlt => ?_) (fun hge => ?_)
    · have hlt' : k < l.length := by omega
      refine ⟨l[k].1, l[k].2, Idx.nat hlt', _, stock_Right_1_says _ _, ?_⟩
      by_cases hi : itOK l[k]
      · have : decide (itOK (l[k].1, l[k].2)) = true := decide_eq_true hi
        rw [this]
        refine IfB_false.2 ?_
        rw [wrap64 (by constructor <;> omega)]
        refine hX _ ⟨k + 1, by simp, hlt', fun x hx => ?_⟩ (by omega)
        rw [List.take_add_one, List.getElem?_eq_getElem hlt'] at hx
        rcases List.mem_append.1 hx with hx | hx
        · exact hok x hx
        · simp at hx; subst hx; exact hi
      · have : decide (itOK (l[k].1, l[k].2)) = false := decide_eq_false hi
        rw [this]
        refine IfB_true.2 (IfB.dec (fun _ => ?_) (fun h => by omega))
        exact decide_eq_false fun h => hi (h.2.2.2 _ (List.getElem_mem hlt'))
    · have e : k = l.length := by omega
      subst e
      rw [List.take_length] at hok
      exact decide_eq_true ⟨h1.1, h1.2, by omega, hok⟩
  · exact decide_eq_false fun h => by have := h.2.2.1; omega
  · exact decide_eq_false fun h => h1 ⟨h.1, h.2.1⟩

/-! ### reading -/
def roll4 : Bs := [114, 111, 108, 108]
def item4 : Bs := [105, 116, 101, 109]
def rollW : Ws → Option Int
  | [w, a] => if w = roll4 ∧ 1 ≤ numS a ∧ numS a ≤ 1048576 then some (numS a) else none
  | _ => none
def itemW : Ws → Option It
  | [w, a, b] => if w = item4 ∧ itOK (numS a, numS b) then some (numS a, numS b) else none
  | _ => none
abbrev Res := Int × List It × Int × Int
def goI (n : Int) (acc : List It) : Ls → Res
  | [] => (n, acc, 0, 0)
  | (k, ws) :: r => match itemW ws with | none => (0, [], k, 2) | some x => if acc.length = 60 then (0, [], k, 4) else goI n (acc ++ [x]) r
def readS : Ls → Res
  | [] => (0, [], 0, 2)
  | (k, ws) :: r => match rollW ws with | none => (0, [], k, 2) | some n => goI n [] r

theorem stock_line_says (ws : Ws) (w : Bs) (n : Nat) (hn : n ≤ 2) (hs : ∀ x, x ∈ ws → x.length ≤ 1000000) : stock_line ws w n (if ws.length = n + 1 ∧ ws[0]? = some w then ((ws.drop 1).map numS, true) else ([], false)) := by
  unfold stock_line
  rw [wrap64 (by constructor <;> omega)]
  refine IfB.nei (fun h => by rw [if_neg (fun h' => h (by omega))]) (fun h => ?_)
  have hl : ws.length = n + 1 := by omega
  have h0 : 0 < ws.length := by omega
  refine ⟨ws[0], Idx.nat h0, IfB.bool (fun h => ?_) (fun h => ?_)⟩
  · rw [if_neg]
    rintro ⟨_, h2⟩
    rw [List.getElem?_eq_getElem h0] at h2
    cases h2
    simp at h
  · have e0 : ws[0] = w := by simpa using h
    rw [if_pos ⟨hl, by rw [List.getElem?_eq_getElem h0, e0]⟩]
    have es : sub ws (1 : Int) (ws.length : Int) = ws.drop 1 := by
      unfold sub
      rw [show (1 : Int).toNat = 1 from rfl, List.take_of_length_le (by simp)]
    refine ⟨⟨by omega, by omega, by omega⟩, ?_⟩
    refine LoopP.intro (fun z : Int × List Int => ∃ k : Nat, z.1 = k ∧ k ≤ n ∧ z.2 = ((ws.drop 1).take k).map numS) (fun z => n - z.1.toNat) ⟨0, rfl, Nat.zero_le _, by simp⟩ ?_
    rintro X ⟨z, out⟩ ⟨k, hz, hk, ho⟩ hX
    simp only at hz ho
    subst hz
    unfold stock_line_L1
    rw [es]
    have hd : (ws.drop 1).length = n := by simp; omega
    refine IfB.dec (fun hlt => ?_) (fun hge => ?_)
    · have hlt' : k < (ws.drop 1).length := by omega
      have hm : (ws.drop 1)[k] ∈ ws := List.mem_of_mem_drop (List.getElem_mem hlt')
      refine ⟨_, Idx.nat hlt', _, stock_number_says _ (hs _ hm), ?_, ?_⟩
      · have : out.length ≤ 2 := by rw [ho]; simp; omega
        unfold Fits; simp; omega
      · rw [wrap64 (by constructor <;> omega)]
        refine hX _ ⟨k + 1, by simp, by omega, ?_⟩ (by simp; omega)
        simp only
        rw [ho, List.take_add_one, List.getElem?_eq_getElem hlt']
        simp
    · rw [ho, show k = (ws.drop 1).length by omega, List.take_length]

theorem list2 {α : Type} {l : List α} (h : l.length = 2) : ∃ a b, l = [a, b] := by
  match l, h with
  | [a, b], _ => exact ⟨a, b, rfl⟩
theorem list3 {α : Type} {l : List α} (h : l.length = 3) : ∃ a b c, l = [a, b, c] := by
  match l, h with
  | [a, b, c], _ => exact ⟨a, b, c, rfl⟩

theorem rollW_no {ws : Ws} (h : ¬ (ws.length = 2 ∧ ws[0]? = some roll4)) : rollW ws = none := by
  unfold rollW
  split
  · rename_i w a
    rw [if_neg]
    rintro ⟨h1, _⟩
    exact h ⟨rfl, by rw [h1]; rfl⟩
  · rfl
theorem itemW_no {ws : Ws} (h : ¬ (ws.length = 3 ∧ ws[0]? = some item4)) : itemW ws = none := by
  unfold itemW
  split
  · rename_i w a b
    rw [if_neg]
    rintro ⟨h1, _⟩
    exact h ⟨rfl, by rw [h1]; rfl⟩
  · rfl

/-- A list that is read line by line. -/
theorem stock_Parse_L {L : Ls} (hL : L.length ≤ 100000) (hne : L ≠ []) (hs : ∀ x, x ∈ L → ∀ w, w ∈ x.2 → w.length ≤ 1000000) : LoopP (stock_Parse_L1 L (readS L)) ((0 : Int), (0 : Int), ([] : List It)) := by
  refine LoopP.intro (fun z : Int × Int × List It => ∃ k : Nat, z.1 = k ∧ k ≤ L.length ∧ z.2.2.length ≤ 60 ∧ ((k = 0 ∧ z.2 = (0, [])) ∨ (0 < k ∧ readS L = goI z.2.1 z.2.2 (L.drop k)))) (fun z => L.length - z.1.toNat) ⟨0, rfl, Nat.zero_le _, by simp, .inl ⟨rfl, rfl⟩⟩ ?_
  rintro X ⟨z, n, acc⟩ ⟨k, hz, hk, hacc, hj⟩ hX
  simp only at hz hacc hj
  subst hz
  unfold stock_Parse_L1
  refine IfB.dec (fun hlt => ?_) (fun hge => ?_)
  · have hlt' : k < L.length := by omega
    obtain ⟨at_, ws, hx⟩ : ∃ at_ ws, L[k] = (at_, ws) := ⟨L[k].1, L[k].2, rfl⟩
    have hi : Idx L (k : Int) (at_, ws) := by rw [← hx]; exact Idx.nat hlt'
    have hws := hs (at_, ws) (by rw [← hx]; exact List.getElem_mem hlt')
    simp only at hws
    have hdrop : L.drop k = (at_, ws) :: L.drop (k + 1) := by rw [List.drop_eq_getElem_cons hlt', hx]
    have ek : IntKind.i64.wrap ((k : Int) + 1) = ((k + 1 : Nat) : Int) := by rw [wrap64 (by constructor <;> omega)]; simp
    refine ⟨at_, ws, hi, IfB.eqi (fun h0 => ?_) (fun h0 => ?_)⟩
    · have hk0 : k = 0 := by omega
      subst hk0
      have hL0 : L = (at_, ws) :: L.drop 1 := by simpa using hdrop
      have hr : readS L = match rollW ws with | none => (0, [], at_, 2) | some n => goI n [] (L.drop 1) := by
        conv => lhs; rw [hL0]
        rfl
      rw [hr, ek]
      have hsay := stock_line_says ws roll4 1 (by omega) hws
      by_cases hc : ws.length = 2 ∧ ws[0]? = some roll4
      · rw [if_pos hc] at hsay
        refine ⟨_, _, hsay, IfB_true.2 ?_⟩
        obtain ⟨w, a, rfl⟩ := list2 hc.1
        have hw : w = roll4 := by simpa using hc.2
        refine ⟨numS a, ⟨by omega, by simp⟩, _, stock_in_says _ _ _, IfB.dec (fun h1 => ?_) (fun h1 => ?_)⟩
        · have hrw : rollW [w, a] = some (numS a) := if_pos ⟨hw, h1⟩
          refine ⟨numS a, ⟨by omega, by simp⟩, ?_⟩
          refine hX _ ⟨1, by simp, by omega, by simpa using hacc, .inr ⟨by omega, ?_⟩⟩ (by simp; omega)
          rcases hj with ⟨_, e⟩ | ⟨h, _⟩
          · cases e
            simp only
            rw [hr, hrw]
          · omega
        · have hrw : rollW [w, a] = none := if_neg fun h => h1 h.2
          rw [hrw]
      · rw [if_neg hc] at hsay
        refine ⟨_, _, hsay, IfB_false.2 ?_⟩
        rw [rollW_no hc]
    · have hk0 : 0 < k := by omega
      rcases hj with ⟨h, _⟩ | ⟨_, hj⟩
      · omega
      rw [hdrop] at hj
      have hr : readS L = match itemW ws with | none => (0, [], at_, 2) | some x => if acc.length = 60 then (0, [], at_, 4) else goI n (acc ++ [x]) (L.drop (k + 1)) := by rw [hj]; rfl
      have hr0 := hr
      rw [hr, ek]
      have hsay := stock_line_says ws item4 2 (by omega) hws
      by_cases hc : ws.length = 3 ∧ ws[0]? = some item4
      · rw [if_pos hc] at hsay
        refine ⟨_, _, hsay, IfB_true.2 ?_⟩
        obtain ⟨w, a, b, rfl⟩ := list3 hc.1
        have hw : w = item4 := by simpa using hc.2
        refine ⟨numS a, ⟨by omega, by simp⟩, numS b, ⟨by omega, by simp⟩, _, stock_item_says _ _, IfB.dec (fun h1 => ?_) (fun h1 => ?_)⟩
        · have hrw : itemW [w, a, b] = some (numS a, numS b) := if_pos ⟨hw, h1⟩
          rw [hrw]
          rw [hrw] at hr0
          refine IfB.eqi (fun h6 => ?_) (fun h6 => ⟨numS a, ⟨by omega, by simp⟩, numS b, ⟨by omega, by simp⟩, by unfold Fits; simp; omega, ?_⟩)
          · simp only
            rw [if_pos (by omega)]
          · simp only at hr0
            rw [if_neg (by omega)] at hr0
            exact hX _ ⟨k + 1, rfl, hlt', by simp; omega, .inr ⟨by omega, hr0⟩⟩ (by simp; omega)
        · have hrw : itemW [w, a, b] = none := if_neg fun h => h1 h.2
          rw [hrw]
      · rw [if_neg hc] at hsay
        refine ⟨_, _, hsay, IfB_false.2 ?_⟩
        rw [itemW_no hc]
  · have e : k = L.length := by omega
    subst e
    rcases hj with ⟨h, _⟩ | ⟨_, hj⟩
    · exact absurd (List.length_eq_zero_iff.1 h) hne
    · rw [hj, List.drop_length]; rfl

theorem wlen_mem : ∀ {l : Ws} {w : Bs}, w ∈ l → w.length ≤ wlen l
  | x :: l, w, h => by
    unfold wlen
    simp only [List.map_cons, List.sum_cons]
    rcases List.mem_cons.1 h with rfl | h
    · omega
    · have := wlen_mem h; unfold wlen at this; omega
theorem allL_words {s : Bs} (hs : s.length ≤ 65536) : ∀ x, x ∈ allL s → ∀ w, w ∈ x.2 → w.length ≤ 1000000 := fun x hx w hw => by
  have h1 := all_wlen s x hx
  have h2 := wlen_mem hw
  omega
theorem allL_len {s : Bs} (hs : s.length ≤ 65536) : (allL s).length ≤ 100000 := by
  have h1 := linesFrom_length (splitC 10 s) 0
  rw [split_len, show linesFrom 0 (splitC 10 s) = allL s from rfl] at h1
  have h2 := List.count_le_length (a := (10 : UInt8)) (l := s)
  omega

theorem stock_Parse_says {s : Bs} (hs : s.length ≤ 65536) (hr : RightP s) : stock_Parse s (readS (allL s)) := by
  unfold stock_Parse
  refine ⟨allL s, 0, lines_All_says hs hr, IfB.nei (fun h => absurd rfl h) (fun _ => IfB.eqi (fun h => ?_) (fun h => ?_))⟩
  · have : allL s = [] := List.length_eq_zero_iff.1 (by omega)
    rw [this]; rfl
  · exact stock_Parse_L (allL_len hs) (fun e => h (by rw [e]; rfl)) (allL_words hs)
theorem stock_Parse_form {s : Bs} (hs : s.length ≤ 65536) (hr : ¬ RightP s) : stock_Parse s (0, [], 0, 2) := by
  unfold stock_Parse
  exact ⟨[], 2, lines_All_form hs hr, IfB.nei (fun _ => rfl) (fun h => by omega)⟩

/-! ### printing -/
def itemWs (x : It) : Ws := [item4, Lib.itoa x.1, Lib.itoa x.2]
def stockWs (n : Int) (l : List It) : List Ws := [roll4, Lib.itoa n] :: l.map itemWs
/-- A stock's text. -/
def stockT (n : Int) (l : List It) : Bs := linesT (stockWs n l)

theorem itoa_wd {z : Int} (h0 : 0 ≤ z) : wdOK (Lib.itoa z) := by
  obtain ⟨u, rfl⟩ := Int.eq_ofNat_of_zero_le h0
  rw [itoa_nat]
  exact dig_wd (decD_dig u).2.1 (decD_dig u).1
theorem itoa_len {z : Int} (h0 : 0 ≤ z) (h1 : z < 1000000000) : (Lib.itoa z).length ≤ 9 := by
  obtain ⟨u, rfl⟩ := Int.eq_ofNat_of_zero_le h0
  rw [itoa_nat]
  exact decD_len 8 u (by omega)
theorem itoa_numZ {z : Int} (h0 : 0 ≤ z) (h1 : z < 1000000000) : numS (Lib.itoa z) = z := by
  obtain ⟨u, rfl⟩ := Int.eq_ofNat_of_zero_le h0
  exact itoa_num u (by omega)
theorem roll_wd : wdOK roll4 := by unfold wdOK roll4; decide
theorem item_wd : wdOK item4 := by unfold wdOK item4; decide
theorem stockWs_ok {n : Int} {l : List It} (h : stOK n l) : ∀ ws, ws ∈ stockWs n l → ws ≠ [] ∧ ∀ w, w ∈ ws → wdOK w := by
  intro ws hws
  unfold stockWs at hws
  rcases List.mem_cons.1 hws with rfl | hws
  · refine ⟨by simp, fun w hw => ?_⟩
    simp at hw
    rcases hw with rfl | rfl
    · exact roll_wd
    · exact itoa_wd (by have := h.1; omega)
  · obtain ⟨x, hx, rfl⟩ := List.mem_map.1 hws
    have hi := h.2.2.2 x hx
    unfold itOK at hi
    refine ⟨by simp [itemWs], fun w hw => ?_⟩
    simp [itemWs] at hw
    rcases hw with rfl | rfl | rfl
    · exact item_wd
    · exact itoa_wd (by omega)
    · exact itoa_wd (by omega)

theorem goI_items (n : Int) : ∀ (l acc : List It) (k : Int), (∀ x, x ∈ l → itOK x) → acc.length + l.length ≤ 60 → ∀ R : Ls, goI n acc (linesN k (l.map itemWs) ++ R) = goI n (acc ++ l) R
  | [], acc, k, _, _, R => by simp [linesN]
  | x :: l, acc, k, h, hl, R => by
    have hx := h x (by simp)
    have hx' := hx
    unfold itOK at hx'
    have e : itemW (itemWs x) = some x := by
      unfold itemW itemWs
      simp only
      rw [itoa_numZ (by omega) (by omega), itoa_numZ (by omega) (by omega), if_pos ⟨trivial, hx⟩]
    simp only [List.map_cons, linesN, List.cons_append, goI, e]
    simp at hl
    rw [if_neg (by omega), goI_items n l (acc ++ [x]) (k + 1) (fun y hy => h y (by simp [hy])) (by simp; omega) R]
    simp

theorem readS_T {n : Int} {l : List It} (h : stOK n l) (k : Int) (R : Ls) : readS (linesN k (stockWs n l) ++ R) = goI n l R := by
  obtain ⟨h1, h2, h3, h4⟩ := h
  have e : rollW [roll4, Lib.itoa n] = some n := by
    unfold rollW
    simp only
    rw [itoa_numZ (by omega) (by omega), if_pos ⟨trivial, h1, h2⟩]
  simp only [stockWs, linesN, List.cons_append, readS, e]
  rw [goI_items n l [] (k + 1) h4 (by simpa using h3) R]
  simp

theorem lineT_len (ws : Ws) : (lineT ws).length ≤ wlen ws := join_len 32 ws
theorem linesT_len : ∀ (l : List Ws) (m : Nat), (∀ ws, ws ∈ l → wlen ws + 1 ≤ m) → (linesT l).length ≤ m * l.length
  | [], m, _ => by simp [linesT]
  | ws :: l, m, h => by
    have h1 := h ws (by simp)
    have h2 := lineT_len ws
    have h3 := linesT_len l m fun w hw => h w (by simp [hw])
    simp only [linesT, List.length_append, List.length_cons, Nat.mul_add, Nat.mul_one]
    omega
theorem stockT_len {n : Int} {l : List It} (h : stOK n l) : (stockT n l).length ≤ 2501 := by
  obtain ⟨h1, h2, h3, h4⟩ := h
  have := linesT_len (stockWs n l) 41 fun ws hws => by
    unfold stockWs at hws
    rcases List.mem_cons.1 hws with rfl | hws
    · have := itoa_len (z := n) (by omega) (by omega)
      simp [wlen, roll4]; omega
    · obtain ⟨x, hx, rfl⟩ := List.mem_map.1 hws
      have hi := h4 x hx
      unfold itOK at hi
      have := itoa_len (z := x.1) (by omega) (by omega)
      have := itoa_len (z := x.2) (by omega) (by omega)
      simp [wlen, itemWs, item4]; omega
  unfold stockT
  have e : (stockWs n l).length = l.length + 1 := by simp [stockWs]
  rw [e] at this
  omega

theorem stock_read {n : Int} {l : List It} (h : stOK n l) : stock_Parse (stockT n l) (n, l, 0, 0) := by
  have hr : RightP (stockT n l) := rightP_of (linesT_right _ fun ws hws => (stockWs_ok h ws hws).2)
  have hl := stockT_len h
  have := stock_Parse_says (s := stockT n l) (by omega) hr
  have e : allL (stockT n l) = linesN 0 (stockWs n l) ++ [] := by
    unfold allL stockT
    have := linesFrom_T (stockWs n l) 0 [] (stockWs_ok h)
    rw [List.append_nil] at this
    rw [this]
    have e0 : linesFrom (0 + ((stockWs n l).length : Int)) (splitC 10 []) = [] := by
      have : wordsOf ([] : Bs) = [] := rfl
      simp [splitC, linesFrom, this]
    rw [e0]
  rw [e, readS_T h 0 []] at this
  exact this

theorem lines_Join_says {l : Ws} (h : wlen l ≤ 1000000) : lines_Join l (lineT l) := ⟨_, strings_Join_says h, rfl⟩

theorem stock_Print_says {n : Int} {l : List It} (h : stOK n l) : stock_Print n l (stockT n l, 0) := by
  have hok := h
  obtain ⟨h1, h2, h3, h4⟩ := h
  unfold stock_Print
  refine ⟨_, stock_Right_says n l, ?_⟩
  rw [decide_eq_true hok]
  have l0 := itoa_len (z := n) (by omega) (by omega)
  have w0 : wlen [roll4, Lib.itoa n] ≤ 40 := by simp [wlen, roll4]; omega
  refine IfB_true.2 ⟨_, ⟨by omega, by omega, rfl⟩, _, lines_Join_says (l := [roll4, Lib.itoa n]) (by omega), ?_, ?_⟩
  · have := lineT_len [roll4, Lib.itoa n]; unfold Fits; simp; omega
  · refine LoopP.intro (fun z : Bs × Int => ∃ k : Nat, z.2 = k ∧ k ≤ l.length ∧ z.1 = linesT (stockWs n (l.take k))) (fun z => l.length - z.2.toNat) ⟨0, rfl, Nat.zero_le _, by simp [stockWs, linesT]⟩ ?_
    rintro X ⟨t, z⟩ ⟨k, hz, hk, ht⟩ hX
    simp only at hz ht
    subst hz
    unfold stock_Print_L1
    refine IfB.dec (fun hlt => ?_) (fun hge => ?_)
    · have hlt' : k < l.length := by omega
      have hi := h4 l[k] (List.getElem_mem hlt')
      unfold itOK at hi
      have q1 := itoa_len (z := l[k].1) (by omega) (by omega)
      have q2 := itoa_len (z := l[k].2) (by omega) (by omega)
      have w1 : wlen (itemWs l[k]) ≤ 40 := by simp [wlen, itemWs, item4]; omega
      have q3 := lineT_len (itemWs l[k])
      have hst : stOK n (l.take k) := ⟨h1, h2, by simp; omega, fun x hx => h4 x (List.mem_of_mem_take hx)⟩
      have q4 := stockT_len hst
      unfold stockT at q4
      rw [← ht] at q4
      refine ⟨l[k].1, l[k].2, Idx.nat hlt', _, ⟨by omega, by omega, rfl⟩, _, ⟨by omega, by omega, rfl⟩, _, lines_Join_says (l := itemWs l[k]) (by omega), ?_, ?_, ?_⟩
      · unfold Fits; simp; omega
      · unfold Fits; simp; omega
      · rw [wrap64 (by constructor <;> omega)]
        refine hX _ ⟨k + 1, by simp, hlt', ?_⟩ (by simp; omega)
        simp only
        rw [ht]
        have app : ∀ (a b : List Ws), linesT (a ++ b) = linesT a ++ linesT b := by
          intro a b
          induction a with
          | nil => rfl
          | cons x a ih => simp [linesT, ih]
        have e : stockWs n (l.take (k + 1)) = stockWs n (l.take k) ++ [itemWs l[k]] := by
          unfold stockWs
          have : l.take (k + 1) = l.take k ++ [l[k]] := by rw [List.take_add_one, List.getElem?_eq_getElem hlt']; rfl
          rw [this, List.map_append]; rfl
        rw [e, app]
        simp [linesT]
    · have e : k = l.length := by omega
      subst e
      rw [ht, List.take_length]; rfl
theorem stock_Print_no {n : Int} {l : List It} (h : ¬ stOK n l) : stock_Print n l ([], 1) := by
  unfold stock_Print
  refine ⟨_, stock_Right_says n l, ?_⟩
  rw [decide_eq_false h]
  exact IfB_false.2 rfl

/-! ### the document's stock -/
theorem Of_says (n : Int) (l : List It) (hl : l.length ≤ 1000) : offcutlaw10_Of n l (n, l.map Prod.fst, l.map Prod.snd) := by
  unfold offcutlaw10_Of
  refine LoopP.intro (fun z : Int × List Int × List Int => ∃ k : Nat, z.1 = k ∧ k ≤ l.length ∧ z.2 = ((l.take k).map Prod.fst, (l.take k).map Prod.snd)) (fun z => l.length - z.1.toNat) ⟨0, rfl, Nat.zero_le _, by simp⟩ ?_
  rintro X ⟨z, a, b⟩ ⟨k, hz, hk, h⟩ hX
  simp only at hz h
  subst hz
  cases h
  unfold offcutlaw10_Of_L1
  refine IfB.dec (fun hlt => ?_) (fun hge => ?_)
  · have hlt' : k < l.length := by omega
    refine ⟨l[k].1, l[k].2, Idx.nat hlt', by unfold Fits; simp; omega, by unfold Fits; simp; omega, ?_⟩
    rw [wrap64 (by constructor <;> omega)]
    have e : l.take (k + 1) = l.take k ++ [l[k]] := by rw [List.take_add_one, List.getElem?_eq_getElem hlt']; rfl
    refine hX _ ⟨k + 1, by simp, hlt', ?_⟩ (by simp; omega)
    rw [e, List.map_append, List.map_append]; rfl
  · have e : k = l.length := by omega
    subst e
    rw [List.take_length]

theorem same_says (n : Int) (l : List It) (hl : l.length ≤ 1000) : offcutlaw10_same n l n (l.map Prod.fst) (l.map Prod.snd) true := by
  unfold offcutlaw10_same
  refine IfB.nei (fun h => absurd rfl h) (fun _ => IfB.nei (fun h => by simp at h) (fun _ => ?_))
  refine LoopP.intro (fun z : Int => ∃ k : Nat, z = k ∧ k ≤ l.length) (fun z => l.length - z.toNat) ⟨0, rfl, Nat.zero_le _⟩ ?_
  rintro X _ ⟨k, rfl, hk⟩ hX
  unfold offcutlaw10_same_L1
  refine IfB.dec (fun hlt => ?_) (fun hge => rfl)
  have hlt' : k < l.length := by omega
  refine ⟨l[k].1, l[k].2, Idx.nat hlt', l[k].1, ⟨by omega, by simp [hlt']⟩, IfB.nei (fun h => absurd rfl h) (fun _ => ⟨l[k].2, ⟨by omega, by simp [hlt']⟩, IfB.nei (fun h => absurd rfl h) (fun _ => ?_)⟩)⟩
  rw [wrap64 (by constructor <;> omega)]
  exact hX _ ⟨k + 1, by simp, hlt'⟩ (by omega)

theorem stock_Total_some {n : Int} {l : List It} (h : stOK n l) : ∃ t, stock_Total n l t := by
  have hok := h
  obtain ⟨h1, h2, h3, h4⟩ := h
  refine ⟨(l.map Prod.snd).sum, ?_⟩
  unfold stock_Total
  refine ⟨_, stock_Right_says n l, ?_⟩
  rw [decide_eq_true hok]
  refine IfB_true.2 ?_
  have bnd : ∀ m : List It, (∀ x, x ∈ m → itOK x) → 0 ≤ (m.map Prod.snd).sum ∧ (m.map Prod.snd).sum ≤ 1024 * m.length := by
    intro m
    induction m with
    | nil => intro _; simp
    | cons x m ih =>
      intro hm
      have := ih fun y hy => hm y (by simp [hy])
      have hx := hm x (by simp)
      unfold itOK at hx
      simp only [List.map_cons, List.sum_cons, List.length_cons]
      omega
  refine LoopP.intro (fun z : Int × Int × Int => ∃ k : Nat, z.2.1 = k ∧ k ≤ l.length ∧ z.1 = ((l.take k).map Prod.snd).sum ∧ z.2.2 = ((l.take k).map Prod.snd).sum) (fun z => l.length - z.2.1.toNat) ⟨0, rfl, Nat.zero_le _, by simp, by simp⟩ ?_
  rintro X ⟨a, z, t⟩ ⟨k, hz, hk, ha, ht⟩ hX
  simp only at hz ha ht
  subst hz
  have hb := bnd (l.take k) fun x hx => h4 x (List.mem_of_mem_take hx)
  have hlen : (l.take k).length = k := by simp; omega
  unfold stock_Total_L1
  refine IfB.dec (fun hlt => ?_) (fun hge => ?_)
  · have hlt' : k < l.length := by omega
    have hi := h4 l[k] (List.getElem_mem hlt')
    unfold itOK at hi
    refine ⟨l[k].1, l[k].2, Idx.nat hlt', ?_⟩
    refine LoopP.intro (fun y : Int × Int × Int => ∃ j : Nat, y.2.1 = j ∧ (j : Int) ≤ l[k].2 ∧ y.1 = a + j ∧ y.2.2 = t + j) (fun y => l[k].2.toNat - y.2.1.toNat) ⟨0, rfl, by simp; omega, by simp, by simp⟩ ?_
    rintro Y ⟨y1, y2, y3⟩ ⟨j, hy2, hj, hy1, hy3⟩ hY
    simp only at hy1 hy2 hy3
    subst hy1 hy2 hy3
    unfold stock_Total_L2
    refine IfB.dec (fun hlt2 => ?_) (fun hge2 => ?_)
    · rw [wrap64 (n := a + j + 1) (by constructor <;> omega), wrap64 (n := (j : Int) + 1) (by constructor <;> omega), wrap64 (n := t + j + 1) (by constructor <;> omega)]
      exact hY _ ⟨j + 1, by simp, by omega, by simp; omega, by simp; omega⟩ (by simp; omega)
    · have ej : (j : Int) = l[k].2 := by omega
      rw [wrap64 (by constructor <;> omega)]
      have e : l.take (k + 1) = l.take k ++ [l[k]] := by rw [List.take_add_one, List.getElem?_eq_getElem hlt']; rfl
      refine hX _ ⟨k + 1, by simp, hlt', ?_, ?_⟩ (by simp; omega)
      · simp only
        rw [e, List.map_append, List.sum_append, ← ha]
        simp; omega
      · simp only
        rw [e, List.map_append, List.sum_append, ← ht]
        simp; omega
  · have e : k = l.length := by omega
    subst e
    rw [ht, List.take_length]
theorem stock_Total_no {n : Int} {l : List It} (h : ¬ stOK n l) : stock_Total n l 0 := by
  unfold stock_Total
  refine ⟨_, stock_Right_says n l, ?_⟩
  rw [decide_eq_false h]
  exact IfB_false.2 rfl
theorem stock_Wide_no {n : Int} {l : List It} (h : ¬ stOK n l) : stock_Wide n l false := by
  unfold stock_Wide
  refine ⟨_, stock_Right_says n l, ?_⟩
  rw [decide_eq_false h]
  exact IfB_false.2 rfl

end Go.Abs
