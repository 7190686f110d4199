/- A part. -/
import Derived.Test.YthkcibhfbcfhlaaGreatDoorDChK24
import Derived.Test.YthkcibhfbcfhlaaGreatDoorDChK27
import Derived.Test.YthkcibhfbcfhlaaGreatDoorDChK17
set_option linter.unusedVariables false
set_option linter.unusedSimpArgs false
set_option linter.unnecessarySimpa false
namespace Go.Abs
open Go
abbrev Q3 := Bool × List Int × List Int
def isN (w : By) : Prop := (ratR w).2.2.2 = 0
instance (w : By) : Decidable (isN w) := inferInstanceAs (Decidable (_ = _))
def numOf (w : By) : Q3 := ((ratR w).1, (ratR w).2.1, (ratR w).2.2.1)
theorem lines_Number_says (w : By) (hl : w.length ≤ 1000000) : lines_Number w (if isN w then ((numOf w).1, (numOf w).2.1, (numOf w).2.2, true) else (false, [], words 1, false)) := by
 unfold lines_Number
 have h := rat_Parse_says w hl
 refine ⟨(ratR w).1, (ratR w).2.1, (ratR w).2.2.1, (ratR w).2.2.2, h, IfB.neI (fun he => ?_) (fun he => ?_)⟩
 ·rw [if_neg (show ¬ isN w from he)]; exact ⟨_,_,_,rat_Int0, rfl⟩
 ·rw [if_pos (show isN w from he)]; rfl
theorem proof_numbers_says (l : List By) (hl : l.length ≤ 100000) (hw : ∀ w, w ∈ l → w.length ≤ 1000000) : proof_numbers l (if ∀ w, w ∈ l → isN w then (l.map numOf, decide (l.length ≤ 180)) else ([], false)) := by
 unfold proof_numbers
 refine LoopP.intro (fun z : Int × List Q3 => ∃ k : Nat, z.1 = k ∧ k ≤ l.length ∧ (∀ w, w ∈ l.take k → isN w) ∧ z.2 = (l.take k).map numOf) (fun z => l.length - z.1.toNat) ⟨0, rfl, by omega, by simp, by simp⟩ ?_
 rintro X ⟨z1, z2⟩ ⟨k, h1, hk, hn, h2⟩ hX
 simp only at h1 h2
 subst h1 h2
 unfold proof_numbers_L1
 dsimp only
 refine IfB.dec (fun h => ?_) (fun h => ?_)
 ·have hkl : k < l.length := by omega
  have htk : l.take (k + 1) = l.take k ++ [l[k]] := by rw [List.take_add_one, List.getElem?_eq_getElem hkl]; rfl
  have hs := lines_Number_says l[k] (hw _ (List.getElem_mem hkl))
  refine ⟨_,Idx.nat hkl, ?_⟩
  by_cases hk2 : isN l[k]
  ·rw [if_pos hk2] at hs
   refine ⟨_,_,_,true, hs, IfB_true.2 ⟨?_, ?_⟩⟩
   ·unfold Fits; simp; omega
   ·rw [wrap64' (by omega) (by omega)]
    refine hX _ ⟨k + 1, by dsimp only; omega, by omega, fun w hw => ?_, ?_⟩ (by dsimp only; omega)
    ·rw [htk] at hw
     rcases List.mem_append.1 hw with hw | hw
     ·exact hn w hw
     ·simp at hw; subst hw; exact hk2
    ·dsimp only
     rw [htk, List.map_append]; rfl
  ·rw [if_neg hk2] at hs
   refine ⟨_,_,_,false, hs, IfB_false.2 ?_⟩
   rw [if_neg (fun h => hk2 (h _ (List.getElem_mem hkl)))]
 ·have : k = l.length := by omega
  subst this
  rw [List.take_length] at hn ⊢
  rw [if_pos hn, List.length_map]
  exact IfB.dec (fun h => by rw [decide_eq_true (by omega)]) (fun h => by rw [decide_eq_false (by omega)])
def dgOK (s : By) : Prop := s ≠ [] ∧ allDg s ∧ s.length ≤ 400
instance (s : By) : Decidable (dgOK s) := inferInstanceAs (Decidable (_ ∧ _))
theorem dgOK_parse (s : By) : dgOK s ↔ (parseR s).2 = 0 := by
 unfold dgOK parseR
 by_cases h : s = [] ∨ ¬ allDg s
 ·rw [if_pos h]
  constructor
  ·rintro ⟨h1, h2, _⟩; exact (h.elim h1 (fun h => h h2)).elim
  ·intro h'; simp at h'
 ·rw [if_neg h]
  have h1 : s ≠ [] := fun e => h (.inl e)
  have h2 : allDg s := Decidable.byContradiction fun e => h (.inr e)
  by_cases h3 : 400 < s.length
  ·rw [if_pos h3]
   constructor
   ·rintro ⟨_,_,h4⟩; omega
   ·intro h'; simp at h'
  ·rw [if_neg h3]; exact ⟨fun _ => rfl, fun _ => ⟨h1, h2, by omega⟩⟩
def okQ (x : Q3) : Prop := WS x.2.1 ∧ WS x.2.2 ∧ x.2.1.length ≤ 10000 ∧ x.2.2.length ≤ 10000
theorem numOf_ok (w : By) : okQ (numOf w) := by
 have hp : ∀ (v : Nat), True := fun _ => trivial
 unfold okQ numOf ratR
 dsimp only
 have h1 := parseR_len (if (Lib.cut w [47]).2.2 then (Lib.cut w [47]).2.1 else [49])
 have h2 := wholeR_len (Lib.cut w [47]).1
 have h3 := parseR_WS (if (Lib.cut w [47]).2.2 then (Lib.cut w [47]).2.1 else [49])
 have h4 := wholeR_WS (Lib.cut w [47]).1
 generalize parseR (if (Lib.cut w [47]).2.2 then (Lib.cut w [47]).2.1 else [49]) = P at *
 generalize wholeR (Lib.cut w [47]).1 = A at *
 split
 ·exact ⟨WS_nil, WS_nil, by simp, by simp⟩
 ·split
  ·exact ⟨WS_nil, WS_nil, by simp, by simp⟩
  ·split
   ·exact ⟨WS_nil, WS_nil, by simp, by simp⟩
   ·refine ⟨WS_words _,WS_words _,?_, ?_⟩
    ·exact Nat.le_trans (words_len_le (Nat.div_le_self _ _)) (Nat.le_trans (wl h4) (by omega))
    ·exact Nat.le_trans (words_len_le (Nat.div_le_self _ _)) (Nat.le_trans (wl h3) (by omega))
end Go.Abs
namespace Go.Abs
open Go
theorem dV_zero : ∀ {s : By}, allDg s → (dV 0 s = 0 ↔ ∀ b, b ∈ s → b = 48)
 | [], _ => by simp [dV_nil]
 | b :: l, h => by
  have hb := h b (by simp)
  have ih := dV_zero (s := l) fun c hc => h c (by simp [hc])
  unfold dg at hb
  rw [dV_cons, dV_acc]
  have hp : 0 < 10 ^ l.length := Nat.pow_pos (by omega)
  have hb48 : b = 48 ↔ b.toNat = 48 := ⟨fun e => by subst e; rfl, fun e => UInt8.toNat_inj.1 e⟩
  constructor
  ·intro h0
   have h1 : (0 * 10 + (b.toNat - 48)) * 10 ^ l.length = 0 := by omega
   have h2 : dV 0 l = 0 := by omega
   rcases Nat.mul_eq_zero.1 h1 with h3 | h3
   ·intro c hc
    rcases List.mem_cons.1 hc with rfl | hc
    ·exact hb48.2 (by omega)
    ·exact ih.1 h2 c hc
   ·omega
  ·intro h0
   have h1 : b.toNat = 48 := hb48.1 (h0 b (by simp))
   have h2 := ih.2 fun c hc => h0 c (by simp [hc])
   rw [h1, h2]; simp
def allZ (s : By) : Prop := ∀ c, c ∈ s → c = 48
instance (s : By) : Decidable (allZ s) := inferInstanceAs (Decidable (∀ c, c ∈ s → c = 48))
def numU (t : By) : Bool :=
 if (Lib.cut t [47]).2.2 then decide (dgOK (Lib.cut t [47]).1) && decide (dgOK (Lib.cut t [47]).2.1) && !decide (allZ (Lib.cut t [47]).2.1) else decide (dgOK t)
theorem cut_app {a b : By} {c : UInt8} (h : ∀ x, x ∈ a → x ≠ c) : Lib.cut (a ++ c :: b) [c] = (a, b, true) := by
 have hi : Lib.index (a ++ c :: b) [c] = (a.length : Int) := by
  rw [Lib.index_one]
  induction a with
  | nil => simp [Lib.indexByte]
  | cons x l ih =>
   have hx := h x (by simp)
   have := ih fun y hy => h y (by simp [hy])
   simp [Lib.indexByte, hx, this]
 unfold Lib.cut
 rw [hi]
 simp
theorem cut_no {a : By} {c : UInt8} (h : ∀ x, x ∈ a → x ≠ c) : Lib.cut a [c] = (a, [], false) := by
 have hi : Lib.index a [c] = -1 := by
  rw [Lib.index_one]
  induction a with
  | nil => rfl
  | cons x l ih =>
   have hx := h x (by simp)
   have := ih fun y hy => h y (by simp [hy])
   simp [Lib.indexByte, hx, this]
 unfold Lib.cut
 rw [hi]
 simp
theorem trimP_cons (b : UInt8) (l : By) : Lib.trimPrefix (b :: l) [45] = if b = 45 then l else b :: l := by
 unfold Lib.trimPrefix Lib.hasPrefix
 by_cases h : b = 45
 ·subst h; simp [List.isPrefixOf]
 ·have : ¬ (45 = b) := fun e => h e.symm
  simp [List.isPrefixOf, h, this]
theorem dw_nil2 : ∀ (w : By), w.dropWhile (fun y : UInt8 => !(y == 47)) = [] ↔ ∀ x, x ∈ w → (!(x == 47)) = true
 | [] => by simp
 | b :: l => by
  rw [List.dropWhile_cons]
  by_cases h : (!(b == 47)) = true
  ·rw [if_pos h, dw_nil2 l]
   constructor
   ·intro h' x hx
    rcases List.mem_cons.1 hx with rfl | hx
    ·exact h
    ·exact h' x hx
   ·exact fun h' x hx => h' x (by simp [hx])
  ·rw [if_neg h]
   exact ⟨fun e => by simp at e, fun h' => absurd (h' b (by simp)) h⟩
theorem dw_head : ∀ (w : By), w.dropWhile (fun y : UInt8 => !(y == 47)) ≠ [] → ∀ y l, w.dropWhile (fun y : UInt8 => !(y == 47)) = y :: l → y = 47
 | [], h => by simp at h
 | b :: l, h => by
  rw [List.dropWhile_cons] at h ⊢
  by_cases hb : (!(b == 47)) = true
  ·rw [if_pos hb] at h ⊢; exact dw_head l h
  ·rw [if_neg hb]
   intro y l' e
   cases e
   simpa using hb
theorem tw_mem : ∀ (w : By) (x : UInt8), x ∈ w.takeWhile (fun y : UInt8 => !(y == 47)) → (!(x == 47)) = true
 | [], x, h => by simp at h
 | b :: l, x, h => by
  rw [List.takeWhile_cons] at h
  split at h
  ·rename_i hb
   rcases List.mem_cons.1 h with rfl | h
   ·exact hb
   ·exact tw_mem l x h
  ·simp at h
theorem numU_isN (w : By) : numU (Lib.trimPrefix w [45]) = decide (isN w) := by
 have fin : (numU (Lib.trimPrefix w [45]) = true ↔ isN w) → numU (Lib.trimPrefix w [45]) = decide (isN w) := fun h => by
  by_cases hh : isN w
  ·rw [decide_eq_true hh]; exact h.2 hh
  ·rw [decide_eq_false hh]; exact Bool.eq_false_iff.2 fun e => hh (h.1 e)
 apply fin
 clear fin
 have hone : parseR [49] = (words 1, 0) := by
  unfold parseR
  rw [if_neg (by decide), if_neg (by decide)]
  rfl
 have wz : ∀ a : By, (wholeR a).2.2 = 0 ↔ dgOK (Lib.trimPrefix a [45]) := fun a => by
  rw [dgOK_parse]
  unfold wholeR
  split
  ·rename_i h; exact ⟨fun h' => absurd h' h, fun h' => absurd h' h⟩
  ·rename_i h; exact ⟨fun _ => by omega, fun _ => rfl⟩
 have pz : ∀ b : By, dgOK b → (val (parseR b).1 = 0 ↔ allZ b) := fun b hb => by
  unfold parseR
  rw [if_neg (fun h => h.elim hb.1 fun h => h hb.2.1), if_neg (by have := hb.2.2; omega), val_words]
  exact dV_zero hb.2.1
 by_cases hs : ∃ a b, w = a ++ 47 :: b ∧ ∀ x, x ∈ a → x ≠ 47
 ·obtain ⟨a, b, rfl, ha⟩ := hs
  have hc := cut_app (b := b) ha
  have ht : Lib.trimPrefix (a ++ 47 :: b) [45] = Lib.trimPrefix a [45] ++ 47 :: b ∧ ∀ x, x ∈ Lib.trimPrefix a [45] → x ≠ 47 := by
   cases a with
   | nil => refine ⟨?_, by simp [Lib.trimPrefix, Lib.hasPrefix]⟩
            rw [List.nil_append, trimP_cons, if_neg (by decide)]; rfl
   | cons y l =>
    rw [List.cons_append, trimP_cons, trimP_cons]
    split
    ·exact ⟨rfl, fun x hx => ha x (by simp [hx])⟩
    ·exact ⟨rfl, ha⟩
  have hc2 := cut_app (b := b) ht.2
  rw [ht.1]
  unfold numU isN ratR
  rw [hc2, hc]
  dsimp only
  simp only [if_true]
  have w1 := wz a
  by_cases h1 : dgOK (Lib.trimPrefix a [45])
  ·rw [if_neg (by rw [w1.2 h1]; simp)]
   by_cases h2 : dgOK b
   ·have e2 := (dgOK_parse b).1 h2
    rw [if_neg (by rw [e2]; simp)]
    by_cases h3 : allZ b
    ·rw [if_pos ((pz b h2).2 h3)]; simp [h1, h2, h3]
    ·rw [if_neg (fun h => h3 ((pz b h2).1 h))]; simp [h1, h2, h3]
   ·have e2 : (parseR b).2 ≠ 0 := fun h => h2 ((dgOK_parse b).2 h)
    rw [if_pos e2]; simp [h2, e2]
  ·have e1 : (wholeR a).2.2 ≠ 0 := fun h => h1 (w1.1 h)
   rw [if_pos e1]; simp [h1, e1]
 ·have hno : ∀ x, x ∈ w → x ≠ 47 := by
   intro x hx e
   subst e
   refine hs ⟨w.takeWhile (fun y => !(y == 47)), (w.dropWhile (fun y => !(y == 47))).tail, ?_, fun x hx => ?_⟩
   ·have h1 := (List.takeWhile_append_dropWhile (p := fun y : UInt8 => !(y == 47)) (l := w)).symm
    have h2 : w.dropWhile (fun y : UInt8 => !(y == 47)) ≠ [] := fun e => by
     have := (dw_nil2 w).1 e 47 hx
     simp at this
    have h3 := dw_head w h2
    cases hd : w.dropWhile (fun y : UInt8 => !(y == 47)) with
    | nil => exact absurd hd h2
    | cons y l =>
     rw [hd] at h1
     have : y = 47 := h3 y l hd
     subst this
     exact h1
   ·have := tw_mem w x hx
    intro e; subst e; simp at this
  have hno2 : ∀ x, x ∈ Lib.trimPrefix w [45] → x ≠ 47 := fun x hx => hno x (by
   unfold Lib.trimPrefix at hx
   split at hx
   ·exact List.mem_of_mem_drop hx
   ·exact hx)
  unfold numU isN ratR
  rw [cut_no hno2, cut_no hno]
  dsimp only
  simp only [Bool.false_eq_true, if_false]
  rw [hone]
  have w1 := wz w
  have v1 : ¬ val (words 1, (0 : Int)).1 = 0 := by rw [val_words]; omega
  by_cases h1 : dgOK (Lib.trimPrefix w [45])
  ·rw [if_neg (by rw [w1.2 h1]; simp)]
   rw [if_neg (show ¬ (words 1, (0 : Int)).2 ≠ 0 by simp), if_neg v1]; simp [h1]
  ·have e1 : (wholeR w).2.2 ≠ 0 := fun h => h1 (w1.1 h)
   rw [if_pos e1]; simp [h1, e1]
end Go.Abs
namespace Go.Abs
open Go
abbrev Ln := List (Int × List By)
def okP (kw : By) (ws : List By) : Prop := ws.head? = some kw ∧ ws.length ≤ 181 ∧ ∀ w, w ∈ ws.tail → isN w
instance (kw : By) (ws : List By) : Decidable (okP kw ws) := inferInstanceAs (Decidable (_ ∧ _ ∧ _))
def lnOK (l : Ln) : Prop := ∀ x, x ∈ l → x.2 ≠ [] ∧ x.2.length ≤ 100000 ∧ ∀ w, w ∈ x.2 → w.length ≤ 1000000
theorem sub_tail {α : Type} (a : α) (l : List α) : sub (a :: l) (1 : Int) ((a :: l).length : Int) = l := by unfold sub; simp
theorem subok_tail {α : Type} (a : α) (l : List α) : SubOk (a :: l) (1 : Int) ((a :: l).length : Int) := ⟨by omega, by simp; omega, by omega⟩
theorem idx0 {α : Type} (a : α) (l : List α) : Idx (a :: l) (0 : Int) a := ⟨by omega, rfl⟩
theorem stepP {rest : Ln} {E0 : Prop} {E : Int → Prop} {N : Int → List Q3 → Prop} {kw : By} (hr : lnOK rest) (h0 : rest = [] → E0)
  (h1 : ∀ a ws r, rest = (a, ws) :: r → (okP kw ws → N a (ws.tail.map numOf)) ∧ (¬ okP kw ws → E a)) :
  IfB ((rest.length : Int) == (0 : Int)) E0
   (∃ (x26 : Int) (x27 : List Bz), Idx rest (0 : Int) (x26, x27) ∧
   SubOk x27 (1 : Int) (x27.length : Int) ∧
   ∃ (x30 : List Fq) (x31 : Bool), proof_numbers (sub x27 (1 : Int) (x27.length : Int)) (x30, x31) ∧
   IfB x31
    (∃ (x33 : Int) (x34 : List Bz), Idx rest (0 : Int) (x33, x34) ∧
    ∃ (x36 : List UInt8), Idx x34 (0 : Int) x36 ∧
    IfB (!(x36 == kw))
     (∃ (x38 : Int) (x39 : List Bz), Idx rest (0 : Int) (x38, x39) ∧ E x38)
     (∃ (x41 : Int) (x42 : List Bz), Idx rest (0 : Int) (x41, x42) ∧
     SubOk rest (1 : Int) (rest.length : Int) ∧ N x41 x30))
    (∃ (x86 : Int) (x87 : List Bz), Idx rest (0 : Int) (x86, x87) ∧
    ∃ (x89 : List UInt8), Idx x87 (0 : Int) x89 ∧
    IfB (!(x89 == kw))
     (∃ (x91 : Int) (x92 : List Bz), Idx rest (0 : Int) (x91, x92) ∧ E x91)
     (∃ (x94 : Int) (x95 : List Bz), Idx rest (0 : Int) (x94, x95) ∧ E x94))) := by
 cases rest with
 | nil => exact IfB_true.2 (h0 rfl)
 | cons x r =>
  obtain ⟨a, ws⟩ := x
  obtain ⟨hne, hl, hwl⟩ := hr (a, ws) (by simp)
  dsimp only at hne hl hwl
  obtain ⟨hN, hE⟩ := h1 a ws r rfl
  refine IfB.eqI (fun h => by simp at h; omega) (fun _ => ?_)
  cases ws with
  | nil => exact absurd rfl hne
  | cons w l =>
   have hp := proof_numbers_says l (by simp at hl; omega) (fun v hv => hwl v (by simp [hv]))
   refine ⟨a, w :: l, idx0 _ _,subok_tail _ _,?_⟩
   rw [sub_tail]
   by_cases hn : ∀ v, v ∈ l → isN v
   ·rw [if_pos hn] at hp
    refine ⟨_,_,hp, IfB.dec (fun h => ?_) (fun h => ?_)⟩
    ·refine ⟨a, w :: l, idx0 _ _,w, idx0 _ _,IfB.intro (fun hk => ⟨a, w :: l, idx0 _ _,hE fun ho => ?_⟩) (fun hk => ⟨a, w :: l, idx0 _ _,subok_tail _ _,hN ⟨?_, ?_, hn⟩⟩)⟩
     ·have := ho.1
      simp at this hk
      exact hk this
     ·simp at hk; simp [hk]
     ·simp; omega
    ·have : ¬ okP kw (w :: l) := fun ho => h (by have := ho.2.1; simp at this; omega)
     exact ⟨a, w :: l, idx0 _ _,w, idx0 _ _,IfB.intro (fun _ => ⟨a, w :: l, idx0 _ _,hE this⟩) (fun _ => ⟨a, w :: l, idx0 _ _,hE this⟩)⟩
   ·rw [if_neg hn] at hp
    have : ¬ okP kw (w :: l) := fun ho => hn ho.2.2
    exact ⟨_,_,hp, IfB_false.2 ⟨a, w :: l, idx0 _ _,w, idx0 _ _,IfB.intro (fun _ => ⟨a, w :: l, idx0 _ _,hE this⟩) (fun _ => ⟨a, w :: l, idx0 _ _,hE this⟩)⟩⟩
theorem endP {rest : Ln} {E : Int → Prop} {N : Prop} (h0 : rest = [] → N) (h1 : ∀ a ws r, rest = (a, ws) :: r → E a) :
  IfB (decide ((rest.length : Int) > (0 : Int))) (∃ (x83 : Int) (x84 : List Bz), Idx rest (0 : Int) (x83, x84) ∧ E x83) N := by
 cases rest with
 | nil => exact IfB.dec (fun h => by simp at h) (fun _ => h0 rfl)
 | cons x r =>
  obtain ⟨a, ws⟩ := x
  exact IfB.dec (fun _ => ⟨a, ws, idx0 _ _,h1 a ws r rfl⟩) (fun h => absurd (by simp) h)
def verd (w : List By) : Nat := if w = [[111, 112, 116, 105, 109, 97, 108]] then 1 else if w = [[105, 110, 102, 101, 97, 115, 105, 98, 108, 101]] then 2 else if w = [[117, 110, 98, 111, 117, 110, 100, 101, 100]] then 3 else 0
def lnR : List By → Int → Ln → Int ⊕ List (List By)
 | [], _, [] => .inr []
 | [], _,(a, _) :: _ => .inl a
 | _ :: _,last, [] => .inl last
 | kw :: ks, last, (a, ws) :: r => if okP kw ws then (match lnR ks a r with | .inl e => .inl e | .inr l => .inr (ws.tail :: l)) else .inl a
def kws (v : Nat) : List By := if v = 1 then [[120], [121]] else if v = 2 then [[121]] else [[120], [114, 97, 121]]
abbrev PT := Int × List By × List By × List By
def says13 : Ln → Int ⊕ PT
 | [] => .inl 0
 | (a, w) :: r =>
  if verd w = 0 then .inl a
  else match lnR (kws (verd w)) a r with
   | .inl e => .inl e
   | .inr l => .inr (if verd w = 1 then (1, l.getD 0 [], l.getD 1 [], []) else if verd w = 2 then (2, [], l.getD 0 [], []) else (3, l.getD 0 [], [], l.getD 1 []))
theorem says13_cons (a : Int) (w : List By) (r : Ln) : says13 ((a, w) :: r) = if verd w = 0 then .inl a else match lnR (kws (verd w)) a r with
      | .inl e => .inl e
      | .inr l => .inr (if verd w = 1 then (1, l.getD 0 [], l.getD 1 [], []) else if verd w = 2 then (2, [], l.getD 0 [], []) else (3, l.getD 0 [], [], l.getD 1 [])) := by rfl
def resP (x : Int ⊕ PT) : Int × List Q3 × List Q3 × List Q3 × Int × Int := match x with | .inl e => (0, [], [], [], e, 2) | .inr (v, x, y, z) => (v, x.map numOf, y.map numOf, z.map numOf, 0, 0)
theorem lnOK_tail {x : Int × List By} {l : Ln} (h : lnOK (x :: l)) : lnOK l := fun y hy => h y (by simp [hy])
theorem verd_le (w : List By) : verd w ≤ 3 := by unfold verd; split <;> (try split) <;> (try split) <;> omega
theorem verd_1 {w : List By} : verd w = 1 ↔ w = [[111, 112, 116, 105, 109, 97, 108]] := by
 unfold verd
 by_cases h : w = [[111, 112, 116, 105, 109, 97, 108]]
 ·simp [h]
 ·rw [if_neg h]; constructor
  ·intro h'; split at h' <;> (try split at h') <;> omega
  ·intro h'; exact absurd h' h
theorem verd_2 {w : List By} : verd w = 2 ↔ w = [[105, 110, 102, 101, 97, 115, 105, 98, 108, 101]] := by
 unfold verd
 by_cases h : w = [[105, 110, 102, 101, 97, 115, 105, 98, 108, 101]]
 ·subst h; simp
 ·constructor
  ·intro h'
   repeat' split at h'
   all_goals first | omega | contradiction
  ·intro h'; exact absurd h' h
theorem verd_3 {w : List By} : verd w = 3 ↔ w = [[117, 110, 98, 111, 117, 110, 100, 101, 100]] := by
 unfold verd
 by_cases h : w = [[117, 110, 98, 111, 117, 110, 100, 101, 100]]
 ·subst h; simp
 ·constructor
  ·intro h'
   repeat' split at h'
   all_goals first | omega | contradiction
  ·intro h'; exact absurd h' h
theorem proof_words_lines (a : Int) (w : List By) (rest : Ln) (hok : lnOK ((a, w) :: rest)) (R : Int × List Q3 × List Q3 × List Q3 × Int × Int) (hR : R = resP (says13 ((a, w) :: rest))) :
  LoopP (proof_Parse_L1 ((a, w) :: rest) [] [111, 112, 116, 105, 109, 97, 108] [105, 110, 102, 101, 97, 115, 105, 98, 108, 101] [117, 110, 98, 111, 117, 110, 100, 101, 100] R) ((0 : Int), (0 : Int)) := by
 refine LoopP.intro (fun z : Int × Int => ∃ k : Nat, z.1 = k ∧ k ≤ 4 ∧ z.2 = ((if verd w < k then verd w else 0 : Nat) : Int)) (fun z => 4 - z.1.toNat) ⟨0, rfl, by omega, by simp⟩ ?_
 rintro X ⟨z1, z2⟩ ⟨k, h1, hk, h2⟩ hX
 simp only at h1 h2
 subst h1 h2
 unfold proof_Parse_L1
 dsimp only
 have hw := (hok (a, w) (by simp)).1
 dsimp only at hw
 refine IfB.dec (fun h => ?_) (fun h => ?_)
 ·have next : ∀ v : Int, v = ((if verd w < k + 1 then verd w else 0 : Nat) : Int) → X (IntKind.i64.wrap ((k : Int) + 1), v) := fun v hv => by
   rw [wrap64' (by omega) (by omega)]
   exact hX _ ⟨k + 1, by dsimp only; omega, by omega, hv⟩ (by dsimp only; omega)
  have keep : verd w ≠ k → X (IntKind.i64.wrap ((k : Int) + 1), ((if verd w < k then verd w else 0 : Nat) : Int)) := fun hv => next _ (by
   congr 1
   by_cases h' : verd w < k
   ·rw [if_pos h', if_pos (by omega)]
   ·rw [if_neg h', if_neg (by omega)])
  have round : ∀ x9 : By, 0 < k → (verd w = k ↔ w = [x9]) → ∃ (x11 : Int) (x12 : List Bz), Idx ((a, w) :: rest) (0 : Int) (x11, x12) ∧
   IfB ((x12.length : Int) == (1 : Int))
    (∃ (x14 : Int) (x15 : List Bz), Idx ((a, w) :: rest) (0 : Int) (x14, x15) ∧
    ∃ (x17 : List UInt8), Idx x15 (0 : Int) x17 ∧
    IfB (x17 == x9)
     (X ((IntKind.i64.wrap ((k : Int) + 1)), (k : Int)))
     (X ((IntKind.i64.wrap ((k : Int) + 1)), ((if verd w < k then verd w else 0 : Nat) : Int))))
    (X ((IntKind.i64.wrap ((k : Int) + 1)), ((if verd w < k then verd w else 0 : Nat) : Int))) := fun x9 h0 hiff => by
   refine ⟨a, w, idx0 _ _,IfB.eqI (fun h1 => ?_) (fun h1 => keep fun hv => h1 (by rw [hiff.1 hv]; rfl))⟩
   cases w with
   | nil => exact absurd rfl hw
   | cons y l =>
    have hl : l = [] := by simp at h1; exact List.length_eq_zero_iff.1 (by omega)
    subst hl
    refine ⟨a, [y], idx0 _ _,y, idx0 _ _,IfB.intro (fun h2 => ?_) (fun h2 => keep fun hv => ?_)⟩
    ·have h2 : y = x9 := by simpa using h2
     have hv := hiff.2 (by rw [h2])
     exact next _ (by rw [hv, if_pos (by omega)])
    ·have := hiff.1 hv
     simp at this h2
     exact h2 this
  match k, hk, h with
  | 0, _,_ => exact ⟨[], idx0 _ _,IfB.dec (fun h => by simp at h) (fun _ => by
    refine next _ ?_
    by_cases h' : verd w < 1
    ·have : verd w = 0 := by omega
     simp [this]
    ·simp [h'])⟩
  | 1, _,_ => exact ⟨[111, 112, 116, 105, 109, 97, 108], ⟨by omega, rfl⟩, IfB.dec (fun _ => round _ (by omega) verd_1) (fun h => absurd (by omega) h)⟩
  | 2, _,_ => exact ⟨[105, 110, 102, 101, 97, 115, 105, 98, 108, 101], ⟨by omega, rfl⟩, IfB.dec (fun _ => round _ (by omega) verd_2) (fun h => absurd (by omega) h)⟩
  | 3, _,_ => exact ⟨[117, 110, 98, 111, 117, 110, 100, 101, 100], ⟨by omega, rfl⟩, IfB.dec (fun _ => round _ (by omega) verd_3) (fun h => absurd (by omega) h)⟩
  | k + 4, hk, h => omega
 ·have hk4 : k = 4 := by omega
  subst hk4
  have hv3 := verd_le w
  rw [if_pos (by omega)]
  clear hX h
  have hrest := lnOK_tail hok
  have R0 : ∀ e, says13 ((a, w) :: rest) = .inl e → R = (0, [], [], [], e, 2) := fun e h => by rw [hR, h]; rfl
  have R1 : ∀ v x y z, says13 ((a, w) :: rest) = .inr (v, x, y, z) → R = (v, x.map numOf, y.map numOf, z.map numOf, 0, 0) := fun v x y z h => by rw [hR, h]; rfl
  clear hR
  refine IfB.eqI (fun h => ⟨a, w, idx0 _ _,R0 _ ?_⟩) (fun h => ⟨a, w, idx0 _ _,subok_tail _ _,?_⟩)
  ·rw [says13_cons, if_pos (by omega)]
  simp only [sub_tail]
  have hne : ¬ verd w = 0 := by omega
  have hs : says13 ((a, w) :: rest) = match lnR (kws (verd w)) a rest with
   | .inl e => .inl e
   | .inr l => .inr (if verd w = 1 then (1, l.getD 0 [], l.getD 1 [], []) else if verd w = 2 then (2, [], l.getD 0 [], []) else (3, l.getD 0 [], [], l.getD 1 [])) := by
   rw [says13_cons, if_neg hne]
  rw [hs] at R0 R1
  clear hs h
  have h123 : verd w = 1 ∨ verd w = 2 ∨ verd w = 3 := by omega
  rcases h123 with hv | hv | hv
  ·rw [hv] at R0 R1 ⊢
   simp only [kws, if_true] at R0 R1
   refine IfB.neI (fun _ => IfB.neI (fun _ => ?_) (fun h => absurd h (by omega))) (fun h => absurd h (by omega))
   refine stepP (kw := [120]) hrest (fun h => R0 _ (by subst h; rfl)) (fun a1 w1 r1 h => ⟨fun ho => ?_, fun hn => R0 _ (by subst h; simp only [lnR, if_neg hn])⟩)
   subst h
   simp only [sub_tail]
   refine stepP (kw := [121]) (lnOK_tail hrest) (fun h => R0 _ (by subst h; simp only [lnR, if_pos ho])) (fun a2 w2 r2 h => ⟨fun ho2 => ?_, fun hn => R0 _ (by subst h; simp only [lnR, if_pos ho, if_neg hn])⟩)
   subst h
   simp only [sub_tail]
   refine endP (fun h => R1 _ w1.tail w2.tail [] (by subst h; simp only [lnR, if_pos ho, if_pos ho2]; rfl)) (fun a3 w3 r3 h => R0 _ (by subst h; simp only [lnR, if_pos ho, if_pos ho2]))
  ·rw [hv] at R0 R1 ⊢
   simp only [kws, show ¬ (2 : Nat) = 1 by omega, if_false, if_true] at R0 R1
   refine IfB.neI (fun h => absurd rfl h) (fun _ => ?_)
   refine stepP (kw := [121]) hrest (fun h => R0 _ (by subst h; rfl)) (fun a1 w1 r1 h => ⟨fun ho => ?_, fun hn => R0 _ (by subst h; simp only [lnR, if_neg hn])⟩)
   subst h
   simp only [sub_tail]
   refine endP (fun h => R1 _ [] w1.tail [] (by subst h; simp only [lnR, if_pos ho]; rfl)) (fun a3 w3 r3 h => R0 _ (by subst h; simp only [lnR, if_pos ho]))
  ·rw [hv] at R0 R1 ⊢
   simp only [kws, show ¬ (3 : Nat) = 1 by omega, show ¬ (3 : Nat) = 2 by omega, if_false] at R0 R1
   refine IfB.neI (fun _ => IfB.neI (fun h => absurd rfl h) (fun _ => ?_)) (fun h => absurd h (by omega))
   refine stepP (kw := [120]) hrest (fun h => R0 _ (by subst h; rfl)) (fun a1 w1 r1 h => ⟨fun ho => ?_, fun hn => R0 _ (by subst h; simp only [lnR, if_neg hn])⟩)
   subst h
   simp only [sub_tail]
   refine stepP (kw := [114, 97, 121]) (lnOK_tail hrest) (fun h => R0 _ (by subst h; simp only [lnR, if_pos ho])) (fun a2 w2 r2 h => ⟨fun ho2 => ?_, fun hn => R0 _ (by subst h; simp only [lnR, if_pos ho, if_neg hn])⟩)
   subst h
   simp only [sub_tail]
   refine endP (fun h => R1 _ w1.tail [] w2.tail (by subst h; simp only [lnR, if_pos ho, if_pos ho2]; rfl)) (fun a3 w3 r3 h => R0 _ (by subst h; simp only [lnR, if_pos ho, if_pos ho2]))
theorem proof_Parse_says (s : By) (hl : s.length ≤ 3000) (hr : RightP s) (hok : lnOK (allL s)) : proof_Parse s (if allL s = [] then (0, [], [], [], 0, 2) else resP (says13 (allL s))) := by
 unfold proof_Parse
 refine ⟨_,_,lines_All_says (by omega) hr, IfB.neI (fun h => absurd rfl h) (fun _ => IfB.eqI (fun h => ?_) (fun h => ?_))⟩
 ·rw [if_pos (List.length_eq_zero_iff.1 (by omega))]
 ·cases ha : allL s with
  | nil => rw [ha] at h; simp at h
  | cons x rest =>
   obtain ⟨a, w⟩ := x
   rw [ha] at hok
   rw [if_neg (by simp)]
   exact ⟨_,_,_,_,rfl, proof_words_lines a w rest hok _ rfl⟩
theorem proof_Parse_wrong (s : By) (hl : s.length ≤ 3000) (hr : ¬ RightP s) : proof_Parse s (0, [], [], [], 0, 2) := by
 unfold proof_Parse
 exact ⟨_,_,lines_All_form (by omega) hr, IfB.neI (fun _ => rfl) (fun h => by omega)⟩
end Go.Abs
namespace Go.Abs
open Go
end Go.Abs
namespace Go.Abs
open Go
theorem wlen_mem {l : List By} {w : By} (h : w ∈ l) : w.length ≤ wlen l := by
 induction l with
 | nil => simp at h
 | cons x l ih =>
  have e : wlen (x :: l) = x.length + 1 + wlen l := by simp [wlen]
  rw [e]
  rcases List.mem_cons.1 h with rfl | h
  ·omega
  ·have := ih h; omega
theorem allL_ok {s : By} (hl : s.length ≤ 100000 - 1) : lnOK (allL s) ∧ (allL s).length ≤ s.length + 1 := by
 refine ⟨fun x hx => ?_, ?_⟩
 ·obtain ⟨i, hi⟩ := List.mem_iff_getElem?.1 hx
  have h1 := Rising.at (linesFrom_rising (splitC 10 s) 0) hi
  have h2 := all_wlen s x hx
  have h3 := wlen_len x.2
  exact ⟨List.length_pos_iff.1 h1.1, by omega, fun w hw => by have := wlen_mem hw; omega⟩
 ·have h1 := linesFrom_length (splitC 10 s) 0
  have h2 := split_len (c := 10) (s := s)
  have h3 := List.count_le_length (a := (10 : UInt8)) (l := s)
  show (linesFrom 0 (splitC 10 s)).length ≤ _
  omega
end Go.Abs
namespace Go.Abs
open Go
end Go.Abs
namespace Go.Abs
open Go
def FewP (l : List Q3) : Prop := l.length ≤ 8 ∧ ∀ x, x ∈ l → x.2.1.length ≤ 3 ∧ x.2.2.length ≤ 3
instance (l : List Q3) : Decidable (FewP l) := inferInstanceAs (Decidable (_ ∧ _))
def mayP (v : Int) (x y z : List Q3) : Prop := (v = 1 ∧ z = []) ∨ (v = 2 ∧ x = [] ∧ z = []) ∨ (v = 3 ∧ y = [])
instance (v : Int) (x y z : List Q3) : Decidable (mayP v x y z) := inferInstanceAs (Decidable (_ ∨ _))
theorem len0 {α : Type} {l : List α} : l = [] ↔ (l.length : Int) = 0 := by rw [← List.length_eq_zero_iff]; omega
theorem Right13_says (v : Int) (x y z : List Q3) (hx : x.length ≤ 180) (hy : y.length ≤ 180) (hz : z.length ≤ 180) : proof_Right v x y z (decide (mayP v x y z)) := by
 unfold proof_Right mayP
 simp only [len0]
 repeat' (first | (refine IfB.neI (fun _ => ?_) (fun _ => ?_)) | (refine IfB.dec (fun _ => ?_) (fun _ => ?_)))
 all_goals first | (refine decide_eq_true ?_; omega) | (refine decide_eq_false ?_; omega) | omega
end Go.Abs
namespace Go.Abs
open Go
def dotQ : List Rat → List Rat → Rat
 | a :: l, b :: m => a * b + dotQ l m
 | _,_ => 0
abbrev vq (l : List Fr) : List Rat := l.map qv
def okV (l : List Fr) (k : Nat) : Prop := l.length ≤ 180 ∧ ∀ x, x ∈ l → okX x k
def stepF (acc x y : Fr) : Fr := if qv x = 0 ∨ qv y = 0 then acc else addF acc (mulF x y)
def dotF : Fr → List Fr → List Fr → Fr
 | acc, x :: l, y :: m => dotF (stepF acc x y) l m
 | acc, _,_ => acc
theorem dotF_nil1 (acc : Fr) (m : List Fr) : dotF acc [] m = acc := by cases m <;> rfl
theorem dotF_nil2 (acc : Fr) (l : List Fr) : dotF acc l [] = acc := by cases l <;> rfl
theorem stepF_ok {acc x y : Fr} {s k : Nat} (h1 : okX acc s) (hx : okX x k) (hy : okX y k) (hs : s ≤ 900000) (hk : k ≤ 2000) : qv (stepF acc x y) = qv acc + qv x * qv y ∧ okX (stepF acc x y) (s + (2 * k + 4)) := by
 unfold stepF
 split
 ·rename_i h
  refine ⟨?_, h1.mono (by omega)⟩
  rcases h with h | h <;> rw [h] <;> grind
 ·obtain ⟨m1, m2, m3⟩ := mulR hx hy (by omega) (by omega)
  obtain ⟨a1, a2, a3⟩ := addR h1 m3 (by omega) (by omega)
  exact ⟨by rw [a2, m2], a3.mono (by omega)⟩
theorem dotF_ok {k : Nat} (hk : k ≤ 2000) : ∀ (a b : List Fr) (acc : Fr) (s : Nat), okX acc s → s + a.length * (2 * k + 4) ≤ 900000 → (∀ x, x ∈ a → okX x k) → (∀ x, x ∈ b → okX x k) → qv (dotF acc a b) = qv acc + dotQ (vq a) (vq b) ∧ okX (dotF acc a b) 900000
 | [], b, acc, s, h1, hs, _,_ => by
  rw [dotF_nil1]
  refine ⟨?_, h1.mono (by omega)⟩
  simp only [vq, List.map_nil, dotQ]; grind
 | x :: a, [], acc, s, h1, hs, _,_ => by
  rw [dotF_nil2]
  refine ⟨?_, h1.mono (by omega)⟩
  simp only [vq, List.map_nil, List.map_cons, dotQ]; grind
 | x :: a, y :: b, acc, s, h1, hs, ha, hb => by
  simp only [List.length_cons, Nat.add_mul, Nat.one_mul] at hs
  obtain ⟨e1, e2⟩ := stepF_ok h1 (ha x (by simp)) (hb y (by simp)) (by omega) hk
  obtain ⟨f1, f2⟩ := dotF_ok hk a b (stepF acc x y) _ e2 (by omega) (fun z hz => ha z (by simp [hz])) (fun z hz => hb z (by simp [hz]))
  refine ⟨?_, f2⟩
  show qv (dotF (stepF acc x y) a b) = _
  rw [f1, e1]
  simp only [vq, List.map_cons, dotQ]; grind
theorem Dot_ok {a b : List Fr} {k : Nat} (hk : k ≤ 2000) (ha : okV a k) (hb : okV b k) : qv (dotF zeroF a b) = dotQ (vq a) (vq b) ∧ okX (dotF zeroF a b) 900000 := by
 have h8 := ha.1
 have hm : a.length * (2 * k + 4) ≤ 180 * 4004 := Nat.mul_le_mul h8 (by omega)
 obtain ⟨h1, h2⟩ := dotF_ok hk a b zeroF 1 zeroR.2.2 (by omega) ha.2 hb.2
 refine ⟨?_, h2⟩
 rw [h1, zeroR.2.1]; grind
theorem Dot_says {a b : List Fr} {k : Nat} (hk : k ≤ 2000) (ha : okV a k) (hb : okV b k) : vec_Dot a b (dotF zeroF a b) := by
 unfold vec_Dot
 have ha8 := ha.1; have hb8 := hb.1
 refine ⟨_,_,_,zeroR.1, ?_⟩
 refine LoopP.intro (fun z : Int × Fr => ∃ i : Nat, z.1 = i ∧ i ≤ a.length ∧ i ≤ b.length ∧ okX z.2 (1 + i * (2 * k + 4)) ∧ dotF z.2 (a.drop i) (b.drop i) = dotF zeroF a b) (fun z => a.length - z.1.toNat) ⟨0, rfl, by omega, by omega, zeroR.2.2.mono (by omega), rfl⟩ ?_
 rintro X ⟨z1, acc⟩ ⟨i, h1, hia, hib, hs, hd⟩ hX
 dsimp only at h1 hs hd
 subst h1
 unfold vec_Dot_L1
 have him : i * (2 * k + 4) ≤ 180 * 4004 := Nat.mul_le_mul (by omega) (by omega)
 refine IfB.dc (fun hlt => ?_) (fun hge => ?_)
 ·have hi : i < a.length ∧ i < b.length := by split at hlt <;> omega
  obtain ⟨hi1, hi2⟩ := hi
  have hx := ha.2 _ (List.getElem_mem hi1)
  have hy := hb.2 _ (List.getElem_mem hi2)
  rw [List.drop_eq_getElem_cons hi1, List.drop_eq_getElem_cons hi2] at hd
  have hd : dotF (stepF acc a[i] b[i]) (a.drop (i + 1)) (b.drop (i + 1)) = dotF zeroF a b := hd
  obtain ⟨c1, s1, s2, _⟩ := signR hx (by omega)
  obtain ⟨c2, t1, t2, _⟩ := signR hy (by omega)
  obtain ⟨_,so⟩ := stepF_ok hs hx hy (by omega) hk
  have nx : ∀ w : Fr, w = stepF acc a[i] b[i] → X (IntKind.i64.wrap ((i : Int) + 1), w) := fun w hw => by
   rw [wrap64' (by omega) (by omega)]
   refine hX _ ⟨i + 1, by simp, by omega, by omega, ?_, by dsimp only; rw [hw]; exact hd⟩ (by dsimp only; omega)
   dsimp only
   rw [hw]
   exact so.mono (by rw [Nat.add_mul]; omega)
  refine ⟨_,_,_,Idx.nat hi1, _,_,_,Idx.nat hi2, c1, s1, IfB.neI (fun h => ⟨c2, t1, IfB.neI (fun h' => ?_) (fun h' => ?_)⟩) (fun h => ?_)⟩
  ·obtain ⟨m1, m2, m3⟩ := mulR hx hy (by omega) (by omega)
   obtain ⟨a1, a2, a3⟩ := addR hs m3 (by omega) (by omega)
   refine ⟨_,_,_,m1, _,_,_,a1, nx _ ?_⟩
   unfold stepF
   rw [if_neg (by rintro (q | q); exact h (s2.2 q); exact h' (t2.2 q))]; rfl
  ·refine nx _ ?_
   unfold stepF
   rw [if_pos (.inr (t2.1 h'))]
  ·refine nx _ ?_
   unfold stepF
   rw [if_pos (.inl (s2.1 h))]
 ·have : a.drop i = [] ∨ b.drop i = [] := by
   rcases Nat.lt_or_ge i a.length with h | h
   ·right; apply List.drop_eq_nil_of_le; split at hge <;> omega
   ·left; exact List.drop_eq_nil_of_le h
  rcases this with e | e
  ·rw [e, dotF_nil1] at hd; exact hd.symm
  ·rw [e, dotF_nil2] at hd; exact hd.symm
end Go.Abs
namespace Go.Abs
open Go
open Classical
structure Sml (A : List (List Fr)) (B C : List Fr) (k : Nat) : Prop where
 rows : A.length ≤ 90
 row : ∀ r, r ∈ A → okV r k
 b : okV B k
 c : okV C k
def RightQ (A : List (List Fr)) (B C : List Fr) : Prop := B.length = A.length ∧ ∀ r, r ∈ A → r.length = C.length
theorem Right_says {A : List (List Fr)} {B C : List Fr} {k : Nat} (h : Sml A B C k) : shape_Right A B C (decide (RightQ A B C)) := by
 unfold shape_Right
 have h1 := h.rows; have h2 := h.c.1
 refine IfB.dc (fun _ => IfB.dc (fun _ => IfB.eqI (fun hB => ?_) (fun hB => decide_eq_false fun hr => hB (by rw [hr.1]))) (fun h => by omega)) (fun h => by omega)
 refine LoopP.intro (fun z : Int => ∃ i : Nat, z = i ∧ i ≤ A.length ∧ ∀ j (hj : j < A.length), j < i → A[j].length = C.length) (fun z => A.length - z.toNat) ⟨0, rfl, by omega, fun j _ hj => by omega⟩ ?_
 rintro X z ⟨i, rfl, hi, hn⟩ hX
 unfold shape_Right_L1
 refine IfB.dc (fun hlt => ?_) (fun hge => decide_eq_true ⟨by omega, fun r hr => ?_⟩)
 ·have hi' : i < A.length := by omega
  refine ⟨_,Idx.nat hi', IfB.neI (fun hne => IfB.dc (fun _ => decide_eq_false fun hr => hne (by rw [hr.2 _ (List.getElem_mem hi')])) (fun h => by omega)) (fun he => ?_)⟩
  rw [wrap64' (by omega) (by omega)]
  refine hX _ ⟨i + 1, by omega, by omega, fun j hj hji => ?_⟩ (by omega)
  by_cases e : j = i
  ·subst e; omega
  ·exact hn j hj (by omega)
 ·obtain ⟨j, hj, rfl⟩ := List.getElem_of_mem hr
  exact hn j hj (by omega)
def colF (A : List (List Fr)) (k : Nat) : List Fr := A.map fun r => lowX (r.getD k zeroF)
def colV (A : List (List Fr)) (k : Nat) : List Rat := A.map fun r => qv (r.getD k zeroF)
theorem Column_says {A : List (List Fr)} {B C : List Fr} {k n : Nat} (h : Sml A B C k) (hk : k ≤ 2000) (hr : RightQ A B C) (hn : n < C.length) : shape_Column A B C (n : Int) (colF A n) := by
 unfold shape_Column
 have h1 := h.rows; have h2 := h.c.1
 have hR := Right_says h
 rw [decide_eq_true hr] at hR
 refine ⟨true, hR, IfB_true.2 (IfB.dc (fun h => by omega) (fun _ => IfB.dc (fun h => by omega) (fun _ => ?_)))⟩
 refine LoopP.intro (fun z : Int × List Fr => ∃ i : Nat, z.1 = i ∧ i ≤ A.length ∧ z.2 = colF (A.take i) n) (fun z => A.length - z.1.toNat) ⟨0, rfl, by omega, by simp [colF]⟩ ?_
 rintro X ⟨z1, z2⟩ ⟨i, e1, hi, e2⟩ hX
 dsimp only at e1 e2
 subst e1 e2
 unfold shape_Column_L1
 refine IfB.dc (fun hlt => ?_) (fun hge => ?_)
 ·have hi' : i < A.length := by omega
  have hrow := h.row _ (List.getElem_mem hi')
  have hl : n < A[i].length := by rw [hr.2 _ (List.getElem_mem hi')]; exact hn
  obtain ⟨m1, m2, m3⟩ := makeR (hrow.2 _ (List.getElem_mem hl)) (by omega)
  refine ⟨_,Idx.nat hi', _,_,_,Idx.nat hl, _,_,_,Idx.nat hl, _,_,_,m1, by unfold Fits; simp [colF]; omega, ?_⟩
  rw [wrap64' (by omega) (by omega)]
  refine hX _ ⟨i + 1, by simp, by omega, ?_⟩ (by dsimp only; omega)
  dsimp only
  unfold colF
  rw [List.take_add_one, List.getElem?_eq_getElem hi', List.map_append]
  have : (A[i].getD n zeroF) = A[i][n] := by rw [List.getD_eq_getElem?_getD, List.getElem?_eq_getElem hl]; rfl
  simp only [Option.toList_some, List.map_cons, List.map_nil, this]; rfl
 ·have : i = A.length := by omega
  subst this
  rw [List.take_length]
theorem getF_ok {r : List Fr} {k n : Nat} (h : okV r k) (hk : 1 ≤ k) : okX (r.getD n zeroF) k := by
 rw [List.getD_eq_getElem?_getD]
 cases hn : r[n]? with
 | none => exact zeroR.2.2.mono hk
 | some x => exact h.2 x (List.mem_of_getElem? hn)
theorem colF_ok {A : List (List Fr)} {B C : List Fr} {k n : Nat} (h : Sml A B C k) (hk : 1 ≤ k) (hk2 : k ≤ 1999) : okV (colF A n) (k + 1) ∧ vq (colF A n) = colV A n := by
 have h1 := h.rows
 refine ⟨⟨by simp [colF]; omega, fun x hx => ?_⟩, ?_⟩
 ·obtain ⟨r, hr, rfl⟩ := List.mem_map.1 hx
  exact (makeR (getF_ok (h.row r hr) hk) (by omega)).2.2
 ·unfold vq colF colV
  rw [List.map_map]
  exact List.map_congr_left fun r hr => (makeR (getF_ok (h.row r hr) hk) (by omega)).2.1
def DoesQ (A : List (List Fr)) (B C x : List Fr) : Prop := RightQ A B C ∧ x.length = C.length ∧ (∀ v, v ∈ x → 0 ≤ qv v) ∧ ∀ i (h : i < A.length) (h' : i < B.length), dotQ (vq A[i]) (vq x) = qv B[i]
theorem okV.mono {l : List Fr} {a b : Nat} (h : okV l a) (hab : a ≤ b) : okV l b := ⟨h.1, fun x hx => (h.2 x hx).mono hab⟩
theorem Does_says {A : List (List Fr)} {B C x : List Fr} {k : Nat} (h : Sml A B C k) (hx : okV x k) (hk : k ≤ 2000) : shape_Does A B C x (decide (DoesQ A B C x)) := by
 unfold shape_Does
 have h1 := h.rows; have h2 := h.c.1; have h3 := hx.1
 refine ⟨_,Right_says h, IfB.dc (fun hr => IfB.neI (fun hne => decide_eq_false fun hd => hne (by rw [hd.2.1])) (fun hlen => ?_)) (fun hr => decide_eq_false fun hd => hr hd.1)⟩
 refine LoopP.intro (fun z : Int => ∃ i : Nat, z = i ∧ i ≤ x.length ∧ ∀ j (hj : j < x.length), j < i → 0 ≤ qv x[j]) (fun z => x.length - z.toNat) ⟨0, rfl, by omega, fun j _ hj => by omega⟩ ?_
 rintro X z ⟨i, rfl, hi, hn⟩ hX
 unfold shape_Does_L1
 refine IfB.dc (fun hlt => ?_) (fun hge => ?_)
 ·have hi' : i < x.length := by omega
  obtain ⟨c, s1, _,_,s4⟩ := signR (hx.2 _ (List.getElem_mem hi')) (by omega)
  have hd1 : shape_Does_1 x[i].1 x[i].2.1 x[i].2.2 (decide (c < 0)) := ⟨c, s1, IfB.dc (fun h => by simp [h]) (fun h => by simp [h])⟩
  refine ⟨_,_,_,Idx.nat hi', _,hd1, IfB.dc (fun hc => IfB.dc (fun _ => decide_eq_false fun hd => ?_) (fun h => by omega)) (fun hc => ?_)⟩
  ·have := hd.2.2.1 _ (List.getElem_mem hi')
   exact absurd (s4.1 hc) (Rat.not_lt.2 this)
  ·rw [wrap64' (by omega) (by omega)]
   refine hX _ ⟨i + 1, by omega, by omega, fun j hj hji => ?_⟩ (by omega)
   by_cases e : j = i
   ·subst e; exact Rat.not_lt.1 fun h => hc (s4.2 h)
   ·exact hn j hj (by omega)
 ·have hpos : ∀ v, v ∈ x → 0 ≤ qv v := fun v hv => by
   obtain ⟨j, hj, rfl⟩ := List.getElem_of_mem hv
   exact hn j hj (by omega)
  clear hX hn
  refine LoopP.intro (fun z : Int => ∃ i : Nat, z = i ∧ i ≤ A.length ∧ ∀ j (hj : j < A.length) (hj' : j < B.length), j < i → dotQ (vq A[j]) (vq x) = qv B[j]) (fun z => A.length - z.toNat) ⟨0, rfl, by omega, fun j _ _ hj => by omega⟩ ?_
  rintro X z ⟨i, rfl, hi, hn⟩ hX
  unfold shape_Does_L3
  refine IfB.dc (fun hlt => ?_) (fun hge => decide_eq_true ⟨hr, by omega, hpos, fun j hj hj' => hn j hj hj' (by omega)⟩)
  have hi' : i < A.length := by omega
  have hib : i < B.length := by rw [hr.1]; exact hi'
  have hrow := h.row _ (List.getElem_mem hi')
  obtain ⟨d1, d2⟩ := Dot_ok hk hrow hx
  obtain ⟨c, c1, c2, _⟩ := cmpR d2 (h.b.2 _ (List.getElem_mem hib)) (by omega) (by omega)
  refine ⟨_,Idx.nat hi', _,_,_,Dot_says hk hrow hx, _,_,_,Idx.nat hib, c, c1, IfB.neI (fun hc => decide_eq_false fun hd => hc (c2.2 ?_)) (fun hc => ?_)⟩
  ·rw [d1]; exact hd.2.2.2 i hi' hib
  ·rw [wrap64' (by omega) (by omega)]
   refine hX _ ⟨i + 1, by omega, by omega, fun j hj hj' hji => ?_⟩ (by omega)
   by_cases e : j = i
   ·subst e; rw [← d1]; exact c2.1 hc
   ·exact hn j hj hj' (by omega)
def UnderQ (A : List (List Fr)) (C y : List Fr) (bd : Nat → Rat) : Prop := y.length = A.length ∧ ∀ k, k < C.length → dotQ (vq y) (colV A k) ≤ bd k
def cV (C : List Fr) (k : Nat) : Rat := qv (C.getD k zeroF)
theorem Ints0_says (n : Nat) (hn : n ≤ 1000) : vec_Ints (List.replicate n (0 : Int)) (List.replicate n zeroF) := by
 unfold vec_Ints
 refine LoopP.intro (fun z : Int × List Fr => ∃ i : Nat, z.1 = i ∧ i ≤ n ∧ z.2 = List.replicate i zeroF) (fun z => n - z.1.toNat) ⟨0, rfl, by omega, rfl⟩ ?_
 rintro X ⟨z1, z2⟩ ⟨i, e1, hi, e2⟩ hX
 dsimp only at e1 e2
 subst e1 e2
 unfold vec_Ints_L1
 refine IfB.dc (fun hlt => ?_) (fun hge => ?_)
 ·simp only [List.length_replicate] at hlt
  refine ⟨0, ⟨by omega, by rw [List.getElem?_replicate, if_pos (by omega)]⟩, _,_,_,zeroR.1, by unfold Fits; simp; omega, ?_⟩
  rw [wrap64' (by omega) (by omega)]
  refine hX _ ⟨i + 1, by simp, by omega, ?_⟩ (by dsimp only; omega)
  dsimp only
  rw [List.replicate_succ']; rfl
 ·simp only [List.length_replicate] at hge
  have : i = n := by omega
  rw [this]
theorem Lower_says {A : List (List Fr)} {B C y : List Fr} {k : Nat} (h : Sml A B C k) (hy : okV y k) (hk1 : 1 ≤ k) (hk : k ≤ 1999) :
  proof_Lower A B C y (if RightQ A B C ∧ UnderQ A C y (cV C) then ((dotF zeroF y B).1, (dotF zeroF y B).2.1, (dotF zeroF y B).2.2, true) else (zeroF.1, zeroF.2.1, zeroF.2.2, false)) := by
 unfold proof_Lower
 have h1 := h.rows; have h2 := h.c.1; have h3 := hy.1
 refine ⟨_,Right_says h, IfB.dc (fun hr => IfB.neI (fun hne => ⟨_,_,_,zeroR.1, ?_⟩) (fun hlen => ?_)) (fun hr => ⟨_,_,_,zeroR.1, ?_⟩)⟩
 ·rw [if_neg fun h => hne (by rw [h.2.1])]; rfl
 ·refine LoopP.intro (fun z : Int => ∃ i : Nat, z = i ∧ i ≤ C.length ∧ ∀ j, j < i → dotQ (vq y) (colV A j) ≤ cV C j) (fun z => C.length - z.toNat) ⟨0, rfl, by omega, fun j hj => by omega⟩ ?_
  rintro X z ⟨i, rfl, hi, hn⟩ hX
  unfold proof_Lower_L1
  refine IfB.dc (fun hlt => ?_) (fun hge => ⟨_,_,_,Dot_says (by omega) hy h.b, ?_⟩)
  ·have hi' : i < C.length := by omega
   obtain ⟨f1, f2⟩ := colF_ok (n := i) h hk1 (by omega)
   obtain ⟨d1, d2⟩ := Dot_ok (k := k + 1) (by omega) (hy.mono (by omega)) f1
   obtain ⟨c, c1, _,c3, _⟩ := cmpR d2 (h.c.2 _ (List.getElem_mem hi')) (by omega) (by omega)
   have hcv : cV C i = qv C[i] := by unfold cV; rw [List.getD_eq_getElem?_getD, List.getElem?_eq_getElem hi']; rfl
   rw [d1, f2, ← hcv] at c3
   refine ⟨_,Column_says h (by omega) hr hi', _,_,_,Dot_says (k := k + 1) (by omega) (hy.mono (by omega)) f1, _,_,_,Idx.nat hi', c, c1, IfB.dc (fun hc => ⟨_,_,_,zeroR.1, ?_⟩) (fun hc => ?_)⟩
   ·rw [if_neg fun h => absurd (c3.1 hc) (Rat.not_lt.2 (h.2.2 i hi'))]; rfl
   ·rw [wrap64' (by omega) (by omega)]
    refine hX _ ⟨i + 1, by omega, by omega, fun j hj => ?_⟩ (by omega)
    by_cases e : j = i
    ·subst e; exact Rat.not_lt.1 fun h => hc (c3.2 h)
    ·exact hn j (by omega)
  ·rw [if_pos ⟨hr, by omega, fun j hj => hn j (by omega)⟩]
 ·rw [if_neg fun h => hr h.1]; rfl
def HoldsQ (A : List (List Fr)) (B C : List Fr) (v : Int) (x y z : List Fr) : Prop :=
 if v = 1 then UnderQ A C y (cV C) ∧ DoesQ A B C x ∧ dotQ (vq y) (vq B) = dotQ (vq C) (vq x)
 else if v = 2 then UnderQ A C y (fun _ => 0) ∧ 0 < dotQ (vq y) (vq B)
 else DoesQ A B C x ∧ DoesQ A (List.replicate B.length zeroF) C z ∧ dotQ (vq C) (vq z) < 0
theorem Sml.zero {A : List (List Fr)} {B C : List Fr} {k : Nat} (h : Sml A B C k) (hk : 1 ≤ k) : Sml A (List.replicate B.length zeroF) C k :=
 ⟨h.rows, h.row, ⟨by simp; exact h.b.1, fun x hx => by rw [List.eq_of_mem_replicate hx]; exact zeroR.2.2.mono hk⟩, h.c⟩
theorem holds_says {A : List (List Fr)} {B C x y z : List Fr} {v : Int} {k : Nat} (h : Sml A B C k) (hx : okV x k) (hy : okV y k) (hz : okV z k) (hk1 : 1 ≤ k) (hk : k ≤ 1999) (hr : RightQ A B C) :
  proof_holds A B C v x y z (decide (HoldsQ A B C v x y z)) := by
 unfold proof_holds HoldsQ
 have h1 := h.rows; have h2 := h.c.1; have hb := h.b.1
 refine IfB.eqI (fun hv => ?_) (fun hv => IfB.eqI (fun hv2 => ?_) (fun hv2 => ?_))
 ·simp only [if_pos hv]
  have hL := Lower_says h hy hk1 hk
  by_cases hu : UnderQ A C y (cV C)
  ·rw [if_pos ⟨hr, hu⟩] at hL
   obtain ⟨d1, d2⟩ := Dot_ok (k := k) (by omega) hy h.b
   obtain ⟨e1, e2⟩ := Dot_ok (k := k) (by omega) h.c hx
   obtain ⟨c, c1, c2, _⟩ := cmpR d2 e2 (by omega) (by omega)
   rw [d1, e1] at c2
   refine ⟨_,_,_,_,hL, IfB_true.2 ⟨_,Does_says h hx (by omega), IfB.dc (fun hd => ⟨_,_,_,Dot_says (by omega) h.c hx, c, c1, IfB.eqI (fun hc => decide_eq_true ⟨hu, hd, c2.1 hc⟩) (fun hc => decide_eq_false fun h => hc (c2.2 h.2.2))⟩) (fun hd => decide_eq_false fun h => hd h.2.1)⟩⟩
  ·rw [if_neg fun h => hu h.2] at hL
   exact ⟨_,_,_,_,hL, IfB_false.2 (decide_eq_false fun h => hu h.1)⟩
 ·simp only [if_neg hv, if_pos hv2]
  refine IfB.neI (fun hne => decide_eq_false fun h => hne (by rw [h.1.1])) (fun hlen => ?_)
  refine LoopP.intro (fun z : Int => ∃ i : Nat, z = i ∧ i ≤ C.length ∧ ∀ j, j < i → dotQ (vq y) (colV A j) ≤ 0) (fun z => C.length - z.toNat) ⟨0, rfl, by omega, fun j hj => by omega⟩ ?_
  rintro X w ⟨i, rfl, hi, hn⟩ hX
  unfold proof_holds_L1
  refine IfB.dc (fun hlt => ?_) (fun hge => ?_)
  ·have hi' : i < C.length := by omega
   obtain ⟨f1, f2⟩ := colF_ok (n := i) h hk1 (by omega)
   obtain ⟨d1, d2⟩ := Dot_ok (k := k + 1) (by omega) (hy.mono (by omega)) f1
   obtain ⟨c, c1, _,c3, _⟩ := cmpR d2 zeroR.2.2 (by omega) (by omega)
   rw [d1, f2, zeroR.2.1] at c3
   have hz1 : proof_holds_1 (i : Int) (zeroF.1, zeroF.2.1, zeroF.2.2) := ⟨_,_,_,zeroR.1, rfl⟩
   refine ⟨_,Column_says h (by omega) hr hi', _,_,_,Dot_says (k := k + 1) (by omega) (hy.mono (by omega)) f1, _,_,_,hz1, c, c1, IfB.dc (fun hc => decide_eq_false fun h => absurd (c3.1 hc) (Rat.not_lt.2 (h.1.2 i hi'))) (fun hc => ?_)⟩
   rw [wrap64' (by omega) (by omega)]
   refine hX _ ⟨i + 1, by omega, by omega, fun j hj => ?_⟩ (by omega)
   by_cases e : j = i
   ·subst e; exact Rat.not_lt.1 fun h => hc (c3.2 h)
   ·exact hn j (by omega)
  ·obtain ⟨d1, d2⟩ := Dot_ok (k := k) (by omega) hy h.b
   obtain ⟨c, c1, _,c3, _⟩ := signR d2 (by omega)
   rw [d1] at c3
   have hu : UnderQ A C y (fun _ => 0) := ⟨by omega, fun j hj => hn j (by omega)⟩
   exact ⟨_,_,_,Dot_says (by omega) hy h.b, c, c1, IfB.dc (fun hc => decide_eq_true ⟨hu, c3.1 hc⟩) (fun hc => decide_eq_false fun h => hc (c3.2 h.2))⟩
 ·simp only [if_neg hv, if_neg hv2]
  refine ⟨⟨by omega, fits_of (by omega) (by omega), fits_of (by omega) (by omega)⟩, List.replicate B.length zeroF, ?_, _,Does_says h hx (by omega), IfB.dc (fun hd => ?_) (fun hd => decide_eq_false fun h => hd h.1)⟩
  ·rw [Int.toNat_natCast]; exact Ints0_says _ (by omega)
  ·obtain ⟨d1, d2⟩ := Dot_ok (k := k) (by omega) h.c hz
   obtain ⟨c, c1, _,_,c4⟩ := signR d2 (by omega)
   rw [d1] at c4
   exact ⟨_,Does_says (h.zero hk1) hz (by omega), IfB.dc (fun hd2 => ⟨_,_,_,Dot_says (by omega) h.c hz, c, c1, IfB.dc (fun hc => decide_eq_true ⟨hd, hd2, c4.1 hc⟩) (fun hc => decide_eq_false fun h => hc (c4.2 h.2.2))⟩) (fun hd2 => decide_eq_false fun h => hd2 h.2.1)⟩
theorem Check_says {A : List (List Fr)} {B C x y z : List Fr} {v : Int} {k : Nat} (h : Sml A B C k) (hx : okV x k) (hy : okV y k) (hz : okV z k) (hk1 : 1 ≤ k) (hk : k ≤ 1999) :
  proof_Check A B C v x y z (if RightQ A B C ∧ mayP v x y z then (if HoldsQ A B C v x y z then 0 else 12) else 1) := by
 unfold proof_Check
 have hR := Right13_says v x y z (by have := hx.1; omega) (by have := hy.1; omega) (by have := hz.1; omega)
 refine ⟨_,Right_says h, IfB.dc (fun hr => ⟨_,hR, ?_⟩) (fun hr => by rw [if_neg fun h => hr h.1])⟩
 by_cases hm : mayP v x y z
 ·rw [show (decide (mayP v x y z)) = true from decide_eq_true hm]
  refine IfB_true.2 ⟨_,holds_says h hx hy hz hk1 hk hr, IfB.dc (fun hh => ?_) (fun hh => ?_)⟩
  ·rw [if_pos ⟨hr, hm⟩, if_pos hh]
  ·rw [if_pos ⟨hr, hm⟩, if_neg hh]
 ·rw [show (decide (mayP v x y z)) = false from decide_eq_false hm]
  refine IfB_false.2 ?_
  rw [if_neg fun h => hm h.2]
end Go.Abs
namespace Go.Abs
open Go
open Classical
theorem dotQ_nil (l : List Rat) : dotQ l [] = 0 := by cases l <;> rfl
theorem dotQ_map_add {α : Type} (f g : α → Rat) : ∀ (R : List α) (y : List Rat), dotQ y (R.map fun r => f r + g r) = dotQ y (R.map f) + dotQ y (R.map g)
 | [], y => by simp only [List.map_nil, dotQ_nil]; grind
 | r :: R, [] => by simp only [dotQ]; grind
 | r :: R, a :: y => by
  simp only [List.map_cons, dotQ]
  rw [dotQ_map_add f g R y]; grind
theorem dotQ_map_mul {α : Type} (f : α → Rat) (s : Rat) : ∀ (R : List α) (y : List Rat), dotQ y (R.map fun r => f r * s) = dotQ y (R.map f) * s
 | [], y => by simp only [List.map_nil, dotQ_nil]; grind
 | r :: R, [] => by simp only [dotQ]; grind
 | r :: R, a :: y => by
  simp only [List.map_cons, dotQ]
  rw [dotQ_map_mul f s R y]; grind
theorem dotQ_zero {α : Type} : ∀ (R : List α) (y : List Rat), dotQ y (R.map fun _ => (0 : Rat)) = 0
 | [], y => by simp only [List.map_nil, dotQ_nil]
 | r :: R, [] => rfl
 | r :: R, a :: y => by
  simp only [List.map_cons, dotQ]
  rw [dotQ_zero R y]; grind
theorem dotQ_rep (n : Nat) : ∀ (x : List Rat), dotQ (List.replicate n 0) x = 0 := by
 induction n with
 | zero => intro x; cases x <;> rfl
 | succ n ih =>
  intro x
  cases x with
  | nil => rfl
  | cons a x => simp only [List.replicate_succ, dotQ]; rw [ih]; grind
theorem weak : ∀ (x c : List Rat) (R : List (List Rat)) (y : List Rat), x.length = c.length → (∀ v, v ∈ x → 0 ≤ v) → (∀ r, r ∈ R → r.length = x.length) → (∀ k, k < x.length → dotQ y (R.map fun r => r.getD k 0) ≤ c.getD k 0) → dotQ y (R.map fun r => dotQ r x) ≤ dotQ c x
 | [], c, R, y, _,_,_,_ => by
  have : (R.map fun r => dotQ r []) = R.map fun _ => (0 : Rat) := List.map_congr_left fun r _ => dotQ_nil r
  rw [this, dotQ_zero, dotQ_nil]; grind
 | x0 :: x, [], R, y, h, _,_,_ => by simp at h
 | x0 :: x, c0 :: c, R, y, h, hp, hR, hk => by
  have e : (R.map fun r => dotQ r (x0 :: x)) = R.map fun r => r.getD 0 0 * x0 + dotQ r.tail x := List.map_congr_left fun r hr => by
   have := hR r hr
   cases r with
   | nil => simp at this
   | cons r0 r => rfl
  rw [e, dotQ_map_add, dotQ_map_mul]
  have h0 := hk 0 (by simp)
  simp only [List.getD_cons_zero] at h0
  have ih := weak x c (R.map List.tail) y (by simpa using h) (fun v hv => hp v (by simp [hv])) (fun r hr => by
   obtain ⟨r', hr', rfl⟩ := List.mem_map.1 hr
   have := hR r' hr'
   simp at this ⊢; omega) (fun k hkl => by
   have := hk (k + 1) (by simp; omega)
   simp only [List.getD_cons_succ] at this
   rw [List.map_map]
   have e2 : (R.map fun r => r.getD (k + 1) 0) = R.map ((fun r => r.getD k 0) ∘ List.tail) := List.map_congr_left fun r hr => by
    have := hR r hr
    cases r with
    | nil => simp at this
    | cons r0 r => rfl
   rw [e2] at this
   exact this)
  rw [List.map_map] at ih
  have e3 : (R.map fun r => dotQ r.tail x) = R.map ((fun r => dotQ r x) ∘ List.tail) := rfl
  rw [e3]
  have hx0 := hp x0 (by simp)
  have h1 := Rat.mul_le_mul_of_nonneg_right h0 hx0
  have e4 : dotQ (c0 :: c) (x0 :: x) = c0 * x0 + dotQ c x := rfl
  rw [e4]; grind
theorem colV_q (A : List (List Fr)) (k : Nat) : colV A k = (A.map vq).map fun r => r.getD k 0 := by
 unfold colV
 rw [List.map_map]
 refine List.map_congr_left fun r _ => ?_
 show qv (r.getD k zeroF) = (r.map qv).getD k 0
 rw [List.getD_eq_getElem?_getD, List.getD_eq_getElem?_getD, List.getElem?_map]
 cases r[k]? with
 | none => exact zeroR.2.1
 | some x => rfl
theorem cV_q (C : List Fr) (k : Nat) : cV C k = (vq C).getD k 0 := by
 unfold cV
 rw [List.getD_eq_getElem?_getD, List.getD_eq_getElem?_getD, List.getElem?_map]
 cases C[k]? with
 | none => exact zeroR.2.1
 | some x => rfl
theorem b_q {A : List (List Fr)} {B C x : List Fr} (h : DoesQ A B C x) : vq B = (A.map vq).map fun r => dotQ r (vq x) := by
 obtain ⟨hr, _,_,hd⟩ := h
 refine List.ext_getElem (by simp [hr.1]) fun i h1 h2 => ?_
 simp only [vq, List.length_map] at h1 h2
 simp only [vq, List.getElem_map]
 exact (hd i h2 h1).symm
theorem duality {A : List (List Fr)} {B C x y : List Fr} {c : List Rat} (hd : DoesQ A B C x) (hc : c.length = C.length) (hu : ∀ k, k < C.length → dotQ (vq y) (colV A k) ≤ c.getD k 0) : dotQ (vq y) (vq B) ≤ dotQ c (vq x) := by
 rw [b_q hd]
 refine weak (vq x) c (A.map vq) (vq y) (by simp [hd.2.1, hc]) (fun v hv => ?_) (fun r hr => ?_) (fun k hk => ?_)
 ·obtain ⟨w, hw, rfl⟩ := List.mem_map.1 hv
  exact hd.2.2.1 w hw
 ·obtain ⟨r', hr', rfl⟩ := List.mem_map.1 hr
  simp [hd.1.2 r' hr', hd.2.1]
 ·rw [← colV_q]
  exact hu k (by simp [hd.2.1] at hk; omega)
theorem dual_c {A : List (List Fr)} {B C x y : List Fr} (hd : DoesQ A B C x) (hu : UnderQ A C y (cV C)) : dotQ (vq y) (vq B) ≤ dotQ (vq C) (vq x) :=
 duality hd (by simp) fun k hk => by rw [← cV_q]; exact hu.2 k hk
theorem dual_0 {A : List (List Fr)} {B C x y : List Fr} (hd : DoesQ A B C x) (hu : UnderQ A C y fun _ => 0) : dotQ (vq y) (vq B) ≤ 0 := by
 have := duality (c := List.replicate C.length 0) hd (by simp) fun k hk => by
  rw [List.getD_eq_getElem?_getD, List.getElem?_replicate, if_pos hk]; exact hu.2 k hk
 rwa [dotQ_rep] at this
theorem vq_zero (n : Nat) : vq (List.replicate n zeroF) = List.replicate n 0 := by unfold vq; rw [List.map_replicate, zeroR.2.1]
theorem dotQ_rep' (n : Nat) (y : List Rat) : dotQ y (List.replicate n 0) = 0 := by
 have := dotQ_zero (List.replicate n ()) y
 rwa [List.map_replicate] at this
theorem notOI {A : List (List Fr)} {B C x x' y y' z z' : List Fr} (h1 : DoesQ A B C x) (h2 : HoldsQ A B C 2 x' y' z') : False := by
 unfold HoldsQ at h2
 rw [if_neg (by omega), if_pos rfl] at h2
 exact absurd h2.2 (Rat.not_lt.2 (dual_0 h1 h2.1))
theorem notOU {A : List (List Fr)} {B C x x' y y' z z' : List Fr} (h1 : HoldsQ A B C 1 x y z) (h2 : HoldsQ A B C 3 x' y' z') : False := by
 unfold HoldsQ at h1 h2
 rw [if_pos rfl] at h1
 rw [if_neg (by omega), if_neg (by omega)] at h2
 have := dual_c h2.2.1 h1.1
 rw [vq_zero, dotQ_rep'] at this
 exact absurd h2.2.2 (Rat.not_lt.2 this)
theorem does1 {A : List (List Fr)} {B C x y z : List Fr} (h1 : HoldsQ A B C 1 x y z) : DoesQ A B C x := by
 unfold HoldsQ at h1; rw [if_pos rfl] at h1; exact h1.2.1
theorem does3 {A : List (List Fr)} {B C x y z : List Fr} (h1 : HoldsQ A B C 3 x y z) : DoesQ A B C x := by
 unfold HoldsQ at h1; rw [if_neg (by omega), if_neg (by omega)] at h1; exact h1.1
theorem sameV {A : List (List Fr)} {B C x x' y y' z z' : List Fr} {v v' : Int} (m1 : mayP v x y z) (m2 : mayP v' x' y' z') (h1 : HoldsQ A B C v x y z) (h2 : HoldsQ A B C v' x' y' z') : v = v' := by
 have c1 : v = 1 ∨ v = 2 ∨ v = 3 := by rcases m1 with h | h | h <;> simp [h.1]
 have c2 : v' = 1 ∨ v' = 2 ∨ v' = 3 := by rcases m2 with h | h | h <;> simp [h.1]
 rcases c1 with rfl | rfl | rfl <;> rcases c2 with rfl | rfl | rfl <;> first | rfl | skip
 ·exact (notOI (z := z) (y := y) (does1 h1) h2).elim
 ·exact (notOU h1 h2).elim
 ·exact (notOI (z := z) (y := y) (does1 h2) h1).elim
 ·exact (notOI (z := z) (y := y) (does3 h2) h1).elim
 ·exact (notOU h2 h1).elim
 ·exact (notOI (z := z) (y := y) (does3 h1) h2).elim
theorem Scale_says {l : List Fr} {by_ : Fr} {k : Nat} (hl : okV l k) (hb : okX by_ k) (hk : k ≤ 2000) : vec_Scale l by_.1 by_.2.1 by_.2.2 (l.map fun x => mulF x by_) := by
 unfold vec_Scale
 have h8 := hl.1
 refine LoopP.intro (fun z : Int × List Fr => ∃ i : Nat, z.1 = i ∧ i ≤ l.length ∧ z.2 = (l.take i).map fun x => mulF x by_) (fun z => l.length - z.1.toNat) ⟨0, rfl, by omega, by simp⟩ ?_
 rintro X ⟨z1, z2⟩ ⟨i, e1, hi, e2⟩ hX
 dsimp only at e1 e2
 subst e1 e2
 unfold vec_Scale_L1
 refine IfB.dc (fun hlt => ?_) (fun hge => ?_)
 ·have hil : i < l.length := by omega
  obtain ⟨m1, _,_⟩ := mulR (hl.2 _ (List.getElem_mem hil)) hb (by omega) (by omega)
  refine ⟨_,_,_,Idx.nat hil, _,_,_,m1, by unfold Fits; simp; omega, ?_⟩
  rw [wrap64' (by omega) (by omega)]
  refine hX _ ⟨i + 1, by simp, by omega, ?_⟩ (by dsimp only; omega)
  dsimp only
  rw [List.take_add_one, List.getElem?_eq_getElem hil, List.map_append]; rfl
 ·have : i = l.length := by omega
  subst this
  rw [List.take_length]
end Go.Abs
