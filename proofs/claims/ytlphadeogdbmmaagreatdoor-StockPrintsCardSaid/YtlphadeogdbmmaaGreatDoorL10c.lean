/- Chapter 10, plain: the laws of the stock. -/
import Derived.Test.YtlphadeogdbmmaaGreatDoorL10b
namespace Go.Abs
open Go
set_option linter.unusedVariables false
set_option linter.unusedSimpArgs false
set_option linter.unnecessarySimpa false

theorem itemW_Ws {x : It} (hx : itOK x) : itemW (itemWs x) = some x := by
  have hx' := hx
  unfold itOK at hx'
  unfold itemW itemWs
  simp only
  rw [itoa_numZ (by omega) (by omega), itoa_numZ (by omega) (by omega), if_pos ⟨trivial, hx⟩]

theorem awk (A B : Prop) (h : A) : ∃ x : Bool, offcutlaw10_awake x ∧ IfB x A B := ⟨true, rfl, IfB_true.2 h⟩

theorem splitC_none : ∀ (s : Bs), (∀ b, b ∈ s → b ≠ 10) → splitC 10 s = [s] := fun s h => split_none h

/-- One item too many. -/
theorem stock_read_many {n : Int} {l : List It} (h : stOK n l) (h60 : l.length = 60) : stock_Parse (stockT n l ++ lineT (itemWs (1, 1))) (0, [], 62, 4) := by
  have h11 : itOK (1, 1) := by unfold itOK; decide
  have hw : ∀ w, w ∈ itemWs (1, 1) → wdOK w := by
    intro w hw
    simp [itemWs] at hw
    rcases hw with rfl | rfl
    · exact item_wd
    · exact itoa_wd (by decide)
  have hr : RightP (stockT n l ++ lineT (itemWs (1, 1))) := rightP_of fun b hb => by
    rcases List.mem_append.1 hb with hb | hb
    · exact linesT_right _ (fun ws hws => (stockWs_ok h ws hws).2) b hb
    · have := line_mem hw hb; unfold mayB; omega
  have hl := stockT_len h
  have hl2 : (lineT (itemWs (1, 1))).length ≤ 40 := by
    refine Nat.le_trans (lineT_len _) ?_
    have := itoa_len (z := 1) (by omega) (by omega)
    simp [wlen, itemWs, item4]; omega
  have := stock_Parse_says (s := stockT n l ++ lineT (itemWs (1, 1))) (by simp; omega) hr
  have e : allL (stockT n l ++ lineT (itemWs (1, 1))) = linesN 0 (stockWs n l) ++ [(62, itemWs (1, 1))] := by
    unfold allL stockT
    rw [linesFrom_T (stockWs n l) 0 _ (stockWs_ok h), splitC_none _ fun b hb e => by have := line_mem hw hb; subst e; simp at this]
    have hp : 0 < (wordsOf (lineT (itemWs (1, 1)))).length := by rw [line_words hw]; simp [itemWs]
    rw [linesFrom, if_pos hp, line_words hw, linesFrom]
    congr 3
    simp [stockWs, h60]
  rw [e, readS_T h 0 _] at this
  rw [goI, itemW_Ws h11] at this
  simp only at this
  rw [if_pos h60] at this
  exact this

theorem item11 : lineT (itemWs (1, 1)) = [105, 116, 101, 109, 32, 49, 32, 49] := by
  have : Lib.itoa 1 = [49] := by
    have := itoa_nat 1
    rw [show ((1 : Nat) : Int) = 1 from rfl] at this
    rw [this, decD_eq]; rfl
  unfold lineT itemWs
  rw [this]; rfl

theorem law_many (w n : Int) : offcutlaw10_StockMany w n true := by
  unfold offcutlaw10_StockMany
  refine IfB.dec (fun _ => awk _ _ rfl) (fun h1 => IfB.dec (fun _ => awk _ _ rfl) (fun h2 => IfB.dec (fun _ => awk _ _ rfl) (fun h3 => IfB.dec (fun _ => awk _ _ rfl) (fun h4 => ?_))))
  refine LoopP.intro (fun z : Int × List It => ∃ k : Nat, z.1 = k ∧ k ≤ 60 ∧ z.2 = List.replicate k (w, n)) (fun z => 60 - z.1.toNat) ⟨0, rfl, Nat.zero_le _, rfl⟩ ?_
  rintro X ⟨z, l⟩ ⟨k, hz, hk, hl⟩ hX
  simp only at hz hl
  subst hz hl
  unfold offcutlaw10_StockMany_L1
  refine IfB.dec (fun hlt => ⟨by unfold Fits; simp; omega, ?_⟩) (fun hge => ?_)
  · rw [wrap64 (by constructor <;> omega)]
    exact hX _ ⟨k + 1, by simp, by omega, by rw [List.replicate_succ']⟩ (by simp; omega)
  · have ek : k = 60 := by omega
    subst ek
    have hok : stOK 1 (List.replicate 60 (w, n)) := ⟨by omega, by omega, by simp, fun x hx => by
      obtain ⟨_, rfl⟩ := List.mem_replicate.1 hx
      unfold itOK; omega⟩
    have hl := stockT_len hok
    have hp := stock_read_many hok (by simp)
    rw [item11] at hp
    refine ⟨_, _, stock_Print_says hok, by unfold Fits; rw [List.length_cons]; simp only [List.length_cons, List.length_nil]; omega, _, _, _, _, hp, by unfold Fits; simp, IfB.eqi (fun _ => IfB.eqi (fun _ => IfB.eqi (fun _ => ?_) (fun h => absurd rfl h)) (fun h => absurd rfl h)) (fun h => absurd rfl h)⟩
    refine ⟨_, stock_Right_says _ _, ?_⟩
    rw [decide_eq_false fun h => by have := h.2.2.1; simp at this]
    exact IfB_false.2 (awk _ _ rfl)

theorem goI_ok : ∀ (L : Ls) (n : Int) (acc : List It) (m : Int) (l : List It) (at_ : Int), goI n acc L = (m, l, at_, 0) → stOK n acc → stOK m l ∧ at_ = 0
  | [], n, acc, m, l, at_, h, hok => by cases h; exact ⟨hok, rfl⟩
  | (k, ws) :: L, n, acc, m, l, at_, h, hok => by
    rw [goI] at h
    cases hw : itemW ws with
    | none => rw [hw] at h; simp at h
    | some x =>
      rw [hw] at h
      simp only at h
      split at h
      · simp at h
      · rename_i h60
        refine goI_ok L n (acc ++ [x]) m l at_ h ⟨hok.1, hok.2.1, ?_, fun y hy => ?_⟩
        · have := hok.2.2.1; simp; omega
        · rcases List.mem_append.1 hy with hy | hy
          · exact hok.2.2.2 y hy
          · simp at hy; subst hy
            unfold itemW at hw
            split at hw
            · split at hw
              · rename_i hcond; cases hw; exact hcond.2
              · cases hw
            · cases hw
theorem readS_ok {L : Ls} {m : Int} {l : List It} {at_ : Int} (h : readS L = (m, l, at_, 0)) : stOK m l ∧ at_ = 0 := by
  cases L with
  | nil => simp [readS] at h
  | cons x L =>
    obtain ⟨k, ws⟩ := x
    rw [readS] at h
    cases hw : rollW ws with
    | none => rw [hw] at h; simp at h
    | some n =>
      rw [hw] at h
      refine goI_ok L n [] m l at_ h ⟨?_, ?_, by simp, by simp⟩ <;> (
        unfold rollW at hw
        split at hw
        · split at hw
          · rename_i h; cases hw; omega
          · cases hw
        · cases hw)

theorem law_again (s : Bs) : offcutlaw10_StockAgain s true := by
  unfold offcutlaw10_StockAgain
  refine IfB.dec (fun _ => awk _ _ rfl) (fun hl => ?_)
  by_cases hr : RightP s
  · obtain ⟨n, l, at_, e, he⟩ : ∃ n l at_ e, readS (allL s) = (n, l, at_, e) := ⟨_, _, _, _, rfl⟩
    have hp := stock_Parse_says (s := s) (by omega) hr
    rw [he] at hp
    refine ⟨_, _, _, _, hp, IfB.nei (fun _ => awk _ _ rfl) (fun h0 => ?_)⟩
    subst h0
    obtain ⟨hok, rfl⟩ := readS_ok he
    obtain ⟨t, ht⟩ := stock_Total_some hok
    have h60 := hok.2.2.1
    refine ⟨_, _, stock_Print_says hok, _, _, _, _, stock_read hok, _, _, stock_Print_says hok, IfB.eqi (fun _ => IfB.eqi (fun _ => IfB.eqi (fun _ => IfB.bool (fun _ => ?_) (fun h => by simp at h)) (fun h => absurd rfl h)) (fun h => absurd rfl h)) (fun h => absurd rfl h)⟩
    refine ⟨_, _, _, Of_says n l (by omega), _, same_says n l (by omega), IfB_true.2 ⟨t, ht, t, ht, IfB.eqi (fun _ => awk _ _ rfl) (fun h => absurd rfl h)⟩⟩
  · exact ⟨_, _, _, _, stock_Parse_form (by omega) hr, IfB.nei (fun _ => awk _ _ rfl) (fun h => by omega)⟩

theorem offcutref10_Right_says (n : Int) (l : List It) (hl : l.length ≤ 1000) : offcutref10_Right n (l.map Prod.fst) (l.map Prod.snd) (decide (stOK n l)) := by
  have no : ¬ stOK n l → decide (stOK n l) = false := fun h => decide_eq_false h
  unfold offcutref10_Right
  refine IfB.dec (fun h => no fun k => by have := k.1; omega) (fun h1 => IfB.dec (fun h => no fun k => by have := k.2.1; omega) (fun h2 => IfB.dec (fun h => no fun k => by have := k.2.2.1; simp at h; omega) (fun h3 => IfB.nei (fun h => by simp at h) (fun _ => ?_))))
  rw [List.length_map] at h3
  refine LoopP.intro (fun z : Int => ∃ k : Nat, z = k ∧ k ≤ l.length ∧ ∀ x, x ∈ l.take k → itOK x) (fun z => l.length - z.toNat) ⟨0, rfl, Nat.zero_le _, by simp⟩ ?_
  rintro X _ ⟨k, rfl, hk, hok⟩ hX
  unfold offcutref10_Right_L1
  rw [List.length_map]
  refine IfB.dec (fun hlt => ?_) (fun hge => ?_)
  · have hlt' : k < l.length := by omega
    have i1 : Idx (l.map Prod.fst) (k : Int) l[k].1 := ⟨by omega, by simp [hlt']⟩
    have i2 : Idx (l.map Prod.snd) (k : Int) l[k].2 := ⟨by omega, by simp [hlt']⟩
    have bad : ¬ itOK l[k] → decide (stOK n l) = false := fun h => no fun k => h (k.2.2.2 _ (List.getElem_mem hlt'))
    refine ⟨_, i1, IfB.dec (fun h => bad fun k => by unfold itOK at k; omega) (fun q1 => ⟨_, i1, IfB.dec (fun h => bad fun k => by unfold itOK at k; omega) (fun q2 => ⟨_, i2, IfB.dec (fun h => bad fun k => by unfold itOK at k; omega) (fun q3 => ⟨_, i2, IfB.dec (fun h => bad fun k => by unfold itOK at k; omega) (fun q4 => ?_)⟩)⟩)⟩)⟩
    rw [wrap64 (by constructor <;> omega)]
    refine hX _ ⟨k + 1, by simp, hlt', fun x hx => ?_⟩ (by omega)
    rw [List.take_add_one, List.getElem?_eq_getElem hlt'] at hx
    rcases List.mem_append.1 hx with hx | hx
    · exact hok x hx
    · simp at hx; subst hx; unfold itOK; omega
  · have e : k = l.length := by omega
    subst e
    rw [List.take_length] at hok
    exact decide_eq_true ⟨by omega, by omega, by omega, hok⟩

theorem law_prints (n : Int) (l : List It) : offcutlaw10_StockPrints n l true := by
  unfold offcutlaw10_StockPrints
  refine IfB.dec (fun _ => awk _ _ rfl) (fun hl => ?_)
  have hO := Of_says n l (by omega)
  have hR := offcutref10_Right_says n l (by omega)
  by_cases hok : stOK n l
  · rw [decide_eq_true hok] at hR
    have hr := stock_Right_says n l
    rw [decide_eq_true hok] at hr
    refine ⟨_, _, stock_Print_says hok, true, hr, IfB_true.2 ⟨_, _, _, hO, true, hR, IfB_true.2 ⟨_, _, _, hO, true, hR, IfB_true.2 ?_⟩⟩⟩
    refine ⟨_, _, _, _, stock_read hok, IfB.eqi (fun _ => IfB.eqi (fun _ => IfB.eqi (fun _ => ?_) (fun h => absurd rfl h)) (fun h => absurd rfl h)) (fun h => absurd rfl h)⟩
    exact ⟨_, _, _, hO, _, same_says n l (by omega), IfB_true.2 (awk _ _ rfl)⟩
  · rw [decide_eq_false hok] at hR
    have hr := stock_Right_says n l
    rw [decide_eq_false hok] at hr
    refine ⟨_, _, stock_Print_no hok, false, hr, IfB_false.2 ⟨_, _, _, hO, false, hR, IfB_false.2 ⟨_, _, _, hO, false, hR, IfB_false.2 ?_⟩⟩⟩
    refine IfB.bool (fun _ => IfB.eqi (fun _ => ⟨0, stock_Total_no hok, IfB.eqi (fun _ => ⟨false, stock_Wide_no hok, IfB_false.2 (awk _ _ rfl)⟩) (fun h => absurd rfl h)⟩) (fun h => absurd rfl h)) (fun h => by simp at h)

/-! ### the document's reading -/
def refR (r : Res) : Int × List Int × List Int × Int × Int := (r.1, r.2.1.map Prod.fst, r.2.1.map Prod.snd, r.2.2.1, r.2.2.2)

theorem same_refR (r : Res) (h : r.2.1.length ≤ 1000) : offcutlaw10_same r.1 r.2.1 (refR r).1 (refR r).2.1 (refR r).2.2.1 true := same_says r.1 r.2.1 h

theorem in_num {s : Bs} {lo : Int} {most : Nat} (hlo : 0 ≤ lo) (hm : most < 1000000000) : (lo ≤ numR s most → numS s = numR s most ∧ numS s ≤ most) ∧ (numR s most < lo → ¬ (lo ≤ numS s ∧ numS s ≤ most)) := by
  obtain ⟨h1, h2⟩ := num_eq s most hm
  refine ⟨fun h => ?_, fun h => ?_⟩
  · obtain ⟨e, h3⟩ := h1 (by omega)
    exact ⟨e, by omega⟩
  · rintro ⟨h3, h4⟩
    by_cases hneg : numR s most < 0
    · rcases h2 hneg with h | h <;> omega
    · obtain ⟨e, _⟩ := h1 (by omega)
      omega

theorem refParse_L {L : Ls} (hL : L.length ≤ 100000) (hne : L ≠ []) (hs : ∀ x, x ∈ L → ∀ w, w ∈ x.2 → w.length ≤ 1000000) : LoopP (offcutref10_Parse_L1 L (refR (readS L))) ((0 : Int), (0 : Int), ([] : List Int), ([] : List Int)) := by
  refine LoopP.intro (fun z : Int × Int × List Int × List Int => ∃ (k : Nat) (acc : List It), z.1 = k ∧ k ≤ L.length ∧ acc.length ≤ 60 ∧ z.2.2 = (acc.map Prod.fst, acc.map Prod.snd) ∧ ((k = 0 ∧ z.2.1 = 0 ∧ acc = []) ∨ (0 < k ∧ readS L = goI z.2.1 acc (L.drop k)))) (fun z => L.length - z.1.toNat) ⟨0, [], rfl, Nat.zero_le _, by simp, rfl, .inl ⟨rfl, rfl, rfl⟩⟩ ?_
  rintro X ⟨z, n, A, B⟩ ⟨k, acc, hz, hk, hacc, hAB, hj⟩ hX
  simp only at hz hAB hj
  subst hz
  cases hAB
  unfold offcutref10_Parse_L1
  refine IfB.dec (fun hlt => ?_) (fun hge => ?_)
  · have hlt' : k < L.length := by omega
    obtain ⟨at_, ws, hx⟩ : ∃ at_ ws, L[k] = (at_, ws) := ⟨L[k].1, L[k].2, rfl⟩
    have hi : Idx L (k : Int) (at_, ws) := by rw [← hx]; exact Idx.nat hlt'
    have hws := hs (at_, ws) (by rw [← hx]; exact List.getElem_mem hlt')
    simp only at hws
    have hdrop : L.drop k = (at_, ws) :: L.drop (k + 1) := by rw [List.drop_eq_getElem_cons hlt', hx]
    have ek : IntKind.i64.wrap ((k : Int) + 1) = ((k + 1 : Nat) : Int) := by rw [wrap64 (by constructor <;> omega)]; simp
    rw [ek]
    refine ⟨at_, ws, hi, IfB.eqi (fun h0 => ?_) (fun h0 => ?_)⟩
    · have hk0 : k = 0 := by omega
      subst hk0
      have hL0 : L = (at_, ws) :: L.drop 1 := by simpa using hdrop
      have hr : readS L = match rollW ws with | none => (0, [], at_, 2) | some n => goI n [] (L.drop 1) := by
        conv => lhs; rw [hL0]
        rfl
      have bad : rollW ws = none → ∃ (x6 : Int) (x7 : Ws), Idx L ((0 : Nat) : Int) (x6, x7) ∧ refR (readS L) = (0, ([] : List Int), ([] : List Int), x6, 2) := fun h => ⟨at_, ws, hi, by rw [hr, h]; rfl⟩
      refine IfB.nei (fun h => bad (rollW_no fun h' => h (by omega))) (fun h2 => ?_)
      obtain ⟨w, a, rfl⟩ := list2 (show ws.length = 2 by omega)
      refine ⟨w, ⟨by omega, by simp⟩, IfB.bool (fun h => bad ?_) (fun h => ?_)⟩
      · refine if_neg fun h' => ?_
        rw [h'.1] at h; simp [roll4] at h
      have hw : w = roll4 := by simpa [roll4] using h
      have ha := hws a (by simp)
      have i1 : Idx [w, a] (1 : Int) a := ⟨by omega, by simp⟩
      have nm := offcutref10_number_says a 1048576 (by omega) ha
      obtain ⟨k1, k2⟩ := in_num (s := a) (lo := 1) (most := 1048576) (by omega) (by omega)
      refine ⟨a, i1, _, nm, IfB.dec (fun h => bad (if_neg fun h' => k2 (by omega) ⟨h'.2.1, by omega⟩)) (fun h => ?_)⟩
      obtain ⟨e, h3⟩ := k1 (by omega)
      refine ⟨a, i1, _, nm, ?_⟩
      have hrw : rollW [w, a] = some (numS a) := if_pos ⟨hw, by omega, by omega⟩
      refine hX _ ⟨1, acc, by simp, by omega, hacc, rfl, .inr ⟨by omega, ?_⟩⟩ (by simp; omega)
      rcases hj with ⟨_, _, e'⟩ | ⟨h, _⟩
      · subst e'
        simp only
        rw [hr, hrw, e]
      · omega
    · have hk0 : 0 < k := by omega
      rcases hj with ⟨h, _⟩ | ⟨_, hj⟩
      · omega
      rw [hdrop] at hj
      have hr : readS L = match itemW ws with | none => (0, [], at_, 2) | some x => if acc.length = 60 then (0, [], at_, 4) else goI n (acc ++ [x]) (L.drop (k + 1)) := by rw [hj]; rfl
      have bad : itemW ws = none → ∃ (x6 : Int) (x7 : Ws), Idx L (k : Int) (x6, x7) ∧ refR (readS L) = (0, ([] : List Int), ([] : List Int), x6, 2) := fun h => ⟨at_, ws, hi, by rw [hr, h]; rfl⟩
      refine IfB.nei (fun h => bad (itemW_no fun h' => h (by omega))) (fun h2 => ?_)
      obtain ⟨w, a, b, rfl⟩ := list3 (show ws.length = 3 by omega)
      refine ⟨w, ⟨by omega, by simp⟩, IfB.bool (fun h => bad ?_) (fun h => ?_)⟩
      · refine if_neg fun h' => ?_
        rw [h'.1] at h; simp [item4] at h
      have hw : w = item4 := by simpa [item4] using h
      have ha := hws a (by simp)
      have hb := hws b (by simp)
      have i1 : Idx [w, a, b] (1 : Int) a := ⟨by omega, by simp⟩
      have i2 : Idx [w, a, b] (2 : Int) b := ⟨by omega, by simp⟩
      have nm1 := offcutref10_number_says a 1048576 (by omega) ha
      have nm2 := offcutref10_number_says b 1024 (by omega) hb
      obtain ⟨k1, k2⟩ := in_num (s := a) (lo := 1) (most := 1048576) (by omega) (by omega)
      obtain ⟨k3, k4⟩ := in_num (s := b) (lo := 0) (most := 1024) (by omega) (by omega)
      refine ⟨a, i1, _, nm1, IfB.dec (fun h => bad (if_neg fun h' => k2 (by omega) ⟨h'.2.1, by have := h'.2.2.1; omega⟩)) (fun h => ?_)⟩
      obtain ⟨e1, h3⟩ := k1 (by omega)
      refine ⟨b, i2, _, nm2, IfB.dec (fun h => bad (if_neg fun h' => k4 (by omega) ⟨h'.2.2.2.1, by have := h'.2.2.2.2; omega⟩)) (fun h5 => ?_)⟩
      obtain ⟨e2, h4⟩ := k3 (by omega)
      have hrw : itemW [w, a, b] = some (numS a, numS b) := if_pos ⟨hw, by unfold itOK; simp only; omega⟩
      rw [hrw] at hr
      simp only at hr
      refine IfB.eqi (fun h6 => ⟨at_, _, hi, ?_⟩) (fun h6 => ?_)
      · rw [List.length_map] at h6
        rw [hr, if_pos (by omega)]; rfl
      · rw [List.length_map] at h6
        rw [if_neg (by omega)] at hr
        refine ⟨a, i1, _, nm1, by unfold Fits; simp; omega, b, i2, _, nm2, by unfold Fits; simp; omega, ?_⟩
        refine hX _ ⟨k + 1, acc ++ [(numS a, numS b)], rfl, hlt', by simp; omega, ?_, .inr ⟨by omega, hr⟩⟩ (by simp; omega)
        simp [e1, e2]
  · have e : k = L.length := by omega
    subst e
    rcases hj with ⟨h, _⟩ | ⟨_, hj⟩
    · exact absurd (List.length_eq_zero_iff.1 h) hne
    · rw [hj, List.drop_length]; rfl

theorem offcutref10_Parse_says {s : Bs} (hs : s.length ≤ 65536) (hr : RightP s) : offcutref10_Parse s (refR (readS (allL s))) := by
  unfold offcutref10_Parse
  have hA := offcutref07_All_says (s := s) (by omega)
  rw [goL_all hr] at hA
  refine ⟨allL s, hA, IfB.eqi (fun h => ?_) (fun h => ?_)⟩
  · have : allL s = [] := List.length_eq_zero_iff.1 (by omega)
    rw [this]; rfl
  · exact refParse_L (allL_len hs) (fun e => h (by rw [e]; rfl)) (allL_words hs)

theorem goI_len : ∀ (L : Ls) (n : Int) (acc : List It), acc.length ≤ 60 → (goI n acc L).2.1.length ≤ 60
  | [], n, acc, h => h
  | (k, ws) :: L, n, acc, h => by
    rw [goI]
    cases itemW ws with
    | none => simp
    | some x =>
      simp only
      split
      · simp
      · exact goI_len L n (acc ++ [x]) (by simp; omega)
theorem readS_len (L : Ls) : (readS L).2.1.length ≤ 60 := by
  cases L with
  | nil => simp [readS]
  | cons x L =>
    obtain ⟨k, ws⟩ := x
    rw [readS]
    cases rollW ws with
    | none => simp
    | some n => exact goI_len L n [] (by simp)

theorem law_parses (s : Bs) : offcutlaw10_StockParses s true := by
  unfold offcutlaw10_StockParses
  refine IfB.dec (fun _ => awk _ _ rfl) (fun hl => ?_)
  by_cases hr : RightP s
  · have hp := stock_Parse_says (s := s) (by omega) hr
    have hq := offcutref10_Parse_says (s := s) (by omega) hr
    have hlen := readS_len (allL s)
    generalize readS (allL s) = R at hp hq hlen
    refine ⟨R.1, R.2.1, R.2.2.1, R.2.2.2, hp, true, offcutref07_Right_says (by omega) (by simp [hr]), IfB_true.2 ⟨_, _, _, _, _, hq, true, same_refR R (by omega), IfB_true.2 (IfB.eqi (fun _ => IfB.eqi (fun _ => awk _ _ rfl) (fun h => absurd rfl h)) (fun h => absurd rfl h))⟩⟩
  · exact ⟨_, _, _, _, stock_Parse_form (by omega) hr, false, offcutref07_Right_says (by omega) (by simp [hr]), IfB_false.2 ⟨true, same_says 0 [] (by simp), IfB_true.2 (IfB.eqi (fun _ => IfB.eqi (fun _ => awk _ _ rfl) (fun h => absurd rfl h)) (fun h => absurd rfl h))⟩⟩

end Go.Abs
