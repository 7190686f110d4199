/- Chapter 17, plain: the law PackLeast. -/
import Derived.Test.YtjhpilmjfbkanaaDoorL17c
namespace Go.Abs
set_option linter.unusedVariables false
set_option linter.unusedSimpArgs false
set_option linter.unnecessarySimpa false

def tot (ws : List Int) : Nat → Int
  | 0 => 0
  | m + 1 => tot ws m + Wd ws m

theorem tot_le {ws : List Int} (hw : ∀ w, w ∈ ws → 0 ≤ w ∧ w ≤ 1048576) (m : Nat) : 0 ≤ tot ws m ∧ tot ws m ≤ 1048576 * m := by
  induction m with
  | zero => simp [tot]
  | succ m ih => have := wd_in hw m; simp only [tot]; omega

theorem wideL_all {ws : List Int} {n : Nat} (m : Nat) (hm : m ≤ n) : wideL ws (2 ^ n - 1) m = tot ws m := by
  have e : ((2 : Int) ^ n - 1) = ((2 ^ n - 1 : Nat) : Int) := by
    have := Nat.two_pow_pos n
    have e : ((2 ^ n : Nat) : Int) = 2 ^ n := by simp
    omega
  induction m with
  | zero => rfl
  | succ m ih =>
    rw [wideL, tot, ih (by omega), e, inSet_bit (by omega), Int.toNat_natCast, Nat.testBit_two_pow_sub_one]
    simp [show m < n by omega, Wd]

/-- Where all sets together have each item once. -/
theorem sum_wide {ws out : List Int} (m : Nat) (h : ∀ k, k < m → cnt out k = 1) : (out.map fun s => wideL ws s m).sum = tot ws m := by
  induction m with
  | zero =>
    have : (out.map fun s => wideL ws s 0) = out.map fun _ => (0 : Int) := rfl
    rw [this, tot]
    clear this h
    induction out with
    | nil => rfl
    | cons x l ihl => rw [List.map_cons, List.sum_cons, ihl]; rfl
  | succ m ih =>
    have key : ∀ l : List Int, (l.map fun s => wideL ws s (m + 1)).sum = (l.map fun s => wideL ws s m).sum + (cnt l m : Int) * Wd ws m := by
      intro l
      induction l with
      | nil => simp [cnt]
      | cons s l ihl =>
        rw [List.map_cons, List.sum_cons, ihl, List.map_cons, List.sum_cons, cnt_cons, wideL]
        cases inSet s m
        · simp; omega
        · simp [Wd]
          rw [Int.add_mul]; omega
    rw [key, ih (fun k hk => h k (by omega)), h m (by omega), tot]; simp

theorem pairs_sum {roll : Int} (hr : 0 ≤ roll) : ∀ (l : List Int), (∀ x, x ∈ l → 0 ≤ x) → (∀ (i : Nat) (a b : Int), l[i]? = some a → l[i + 1]? = some b → roll < a + b) → ((l.length / 2 : Nat) : Int) * roll ≤ l.sum ∧ (2 ≤ l.length → ((l.length / 2 : Nat) : Int) * roll < l.sum)
  | [], _, _ => by simp
  | [x], h, _ => by have := h x (by simp); simp; exact this
  | x :: y :: l, h, hp => by
    have h0 := hp 0 x y rfl rfl
    obtain ⟨i1, _⟩ := pairs_sum hr l (fun z hz => h z (by simp [hz])) (fun i a b ha hb => hp (i + 2) a b (by simpa using ha) (by simpa using hb))
    have e : (x :: y :: l).length / 2 = l.length / 2 + 1 := by simp; omega
    rw [e, List.sum_cons, List.sum_cons]
    have e2 : ((l.length / 2 + 1 : Nat) : Int) * roll = ((l.length / 2 : Nat) : Int) * roll + roll := by
      rw [Int.natCast_add, Int.add_mul]; simp
    rw [e2]
    constructor
    · omega
    · intro _; omega

/-! ### the fewest -/
def fewStep (w : Int) (room : List Int) (F : List Int → Int) (best : Int) (i : Nat) : Int :=
  if room.getD i 0 ≥ w then (if F (room.set i (room.getD i 0 - w)) < best then F (room.set i (room.getD i 0 - w)) else best) else best
def fewW (roll : Int) (ws : List Int) : Nat → List Int → Int
  | 0, room => room.length
  | d + 1, room => (List.range room.length).foldl (fewStep (Wd ws (ws.length - (d + 1))) room (fewW roll ws d)) (fewW roll ws d (room ++ [roll - Wd ws (ws.length - (d + 1))]))

theorem fewStep_le (w : Int) (room : List Int) (F : List Int → Int) (best : Int) (i : Nat) : fewStep w room F best i ≤ best := by
  unfold fewStep
  split
  · split <;> omega
  · omega
theorem foldl_le {β : Type} (g : Int → β → Int) (hg : ∀ b x, g b x ≤ b) (l : List β) (b : Int) : l.foldl g b ≤ b := by
  induction l generalizing b with
  | nil => simp
  | cons x l ih => rw [List.foldl_cons]; have := ih (g b x); have := hg b x; omega

theorem few_le_new {roll : Int} {ws : List Int} {d : Nat} {room : List Int} : fewW roll ws (d + 1) room ≤ fewW roll ws d (room ++ [roll - Wd ws (ws.length - (d + 1))]) := foldl_le _ (fewStep_le _ _ _) _ _

theorem few_le_old {roll : Int} {ws : List Int} {d : Nat} {room : List Int} {i : Nat} (hi : i < room.length) (h : room.getD i 0 ≥ Wd ws (ws.length - (d + 1))) : fewW roll ws (d + 1) room ≤ fewW roll ws d (room.set i (room.getD i 0 - Wd ws (ws.length - (d + 1)))) := by
  rw [fewW]
  generalize fewW roll ws d (room ++ [roll - Wd ws (ws.length - (d + 1))]) = b
  have e : List.range room.length = List.range i ++ (i :: List.range' (i + 1) (room.length - (i + 1))) := by
    have := List.range'_append_1 (s := 0) (m := i) (n := room.length - i)
    have e2 : i + (room.length - i) = room.length := by omega
    rw [e2, Nat.zero_add] at this
    rw [List.range_eq_range', List.range_eq_range', ← this]
    congr 1
    have : room.length - i = (room.length - (i + 1)) + 1 := by omega
    rw [this, List.range'_succ]
  rw [e, List.foldl_append, List.foldl_cons]
  refine Int.le_trans (foldl_le _ (fewStep_le _ _ _) _ _) ?_
  unfold fewStep
  rw [if_pos h]
  split <;> omega

/-- The rooms left are of the rolls' sizes. -/
def Rooms (roll : Int) (room : List Int) : Prop := ∀ x, x ∈ room → 0 ≤ x ∧ x ≤ roll

theorem sum_set {l : List Int} {i : Nat} {y : Int} (hi : i < l.length) : (l.set i y).sum = l.sum - l.getD i 0 + y := by
  obtain ⟨e1, e2⟩ := split_at (List.getElem?_eq_getElem hi)
  have eset : l.set i y = l.take i ++ y :: l.drop (i + 1) := by rw [List.set_eq_take_append_cons_drop, if_pos hi]
  have eg : l.getD i 0 = l[i] := by simp [List.getD_eq_getElem?_getD, hi]
  have es : l.sum = (l.take i).sum + (l[i] + (l.drop (i + 1)).sum) := by
    conv => lhs; rw [e1]
    rw [List.sum_append, List.sum_cons]
  rw [eset, eg, es, List.sum_append, List.sum_cons]; omega

theorem foldl_inv {β : Type} {g : Int → β → Int} {p : Int → Prop} (l : List β) (b : Int) (h0 : p b) (h : ∀ b x, x ∈ l → p b → p (g b x)) : p (l.foldl g b) := by
  induction l generalizing b with
  | nil => exact h0
  | cons x l ih => exact ih _ (h b x (by simp) h0) fun b y hy hb => h b y (by simp [hy]) hb

theorem rooms_set {roll w : Int} {room : List Int} (hR : Rooms roll room) {i : Nat} (hi : i < room.length) (hw : 0 ≤ w) (h : room.getD i 0 ≥ w) : Rooms roll (room.set i (room.getD i 0 - w)) := by
  intro x hx
  rcases List.mem_or_eq_of_mem_set hx with hx | rfl
  · exact hR x hx
  · have : room.getD i 0 ∈ room := by simp [List.getD_eq_getElem?_getD, hi]
    have := hR _ this; omega
theorem rooms_new {roll w : Int} {room : List Int} (hR : Rooms roll room) (hw : 0 ≤ w ∧ w ≤ roll) : Rooms roll (room ++ [roll - w]) := by
  intro x hx
  rcases List.mem_append.1 hx with hx | hx
  · exact hR x hx
  · simp at hx; omega

theorem few_low {roll : Int} {ws : List Int} (hm : mayB roll ws = true) : ∀ (d : Nat) (room : List Int), d ≤ ws.length → Rooms roll room →
    (roll * room.length - room.sum) + (tot ws ws.length - tot ws (ws.length - d)) ≤ fewW roll ws d room * roll
  | 0, room, _, hR => by
    have : 0 ≤ room.sum := by
      have : ∀ l : List Int, (∀ x, x ∈ l → 0 ≤ x) → 0 ≤ l.sum := by
        intro l
        induction l with
        | nil => intro _; simp
        | cons x l ih => intro h; rw [List.sum_cons]; have := h x (by simp); have := ih fun y hy => h y (by simp [hy]); omega
      exact this room fun x hx => (hR x hx).1
    simp only [fewW, Nat.sub_zero]
    rw [Int.mul_comm roll]; omega
  | d + 1, room, hd, hR => by
    have hk : ws.length - (d + 1) < ws.length := by omega
    obtain ⟨w0, w1⟩ := may_Wd hm hk
    have et : tot ws (ws.length - d) = tot ws (ws.length - (d + 1)) + Wd ws (ws.length - (d + 1)) := by
      have : ws.length - d = ws.length - (d + 1) + 1 := by omega
      rw [this, tot]
    rw [fewW]
    generalize Wd ws (ws.length - (d + 1)) = w at *
    refine foldl_inv (p := fun b => (roll * room.length - room.sum) + (tot ws ws.length - tot ws (ws.length - (d + 1))) ≤ b * roll) _ _ ?_ ?_
    · have := few_low hm d (room ++ [roll - w]) (by omega) (rooms_new hR (by omega))
      rw [List.sum_append, List.length_append, Int.natCast_add, Int.mul_add, et] at this
      simp at this ⊢; omega
    · intro b i hi hb
      have hi' : i < room.length := by simpa using hi
      unfold fewStep
      split
      · rename_i hge
        split
        · have := few_low hm d _ (by omega) (rooms_set hR hi' (by omega) hge)
          rw [sum_set hi', List.length_set, et] at this
          omega
        · exact hb
      · exact hb

/-! ### no more than any packing -/
def load (ws : List Int) (bin : Nat → Nat) (b : Nat) : Nat → Int
  | 0 => 0
  | k + 1 => load ws bin b k + if bin k = b then Wd ws k else 0

theorem load_mono {ws : List Int} (hw : ∀ w, w ∈ ws → 0 ≤ w ∧ w ≤ 1048576) (bin : Nat → Nat) (b : Nat) {j k : Nat} (h : j ≤ k) : load ws bin b j ≤ load ws bin b k := by
  induction k with
  | zero => have : j = 0 := by omega
            rw [this]; exact Int.le_refl _
  | succ k ih =>
    rcases Nat.lt_or_ge k j with hl | hl
    · have : j = k + 1 := by omega
      rw [this]; exact Int.le_refl _
    · have := ih hl
      have := wd_in hw k
      simp only [load]; split <;> omega

theorem nodup_le : ∀ (m : Nat) (l : List Nat), l.Nodup → (∀ x, x ∈ l → x < m) → l.length ≤ m
  | 0, l, _, h => by
    cases l with
    | nil => simp
    | cons x l => exact absurd (h x (by simp)) (by omega)
  | m + 1, l, hn, h => by
    have := nodup_le m (l.filter fun x => x != m) (hn.filter _) (fun x hx => by
      have h1 := List.mem_filter.1 hx
      have := h x h1.1
      have : x ≠ m := by simpa using h1.2
      omega)
    have h2 : l.length ≤ (l.filter fun x => x != m).length + 1 := by
      clear this h
      induction l with
      | nil => simp
      | cons x l ih =>
        rw [List.nodup_cons] at hn
        rw [List.filter_cons]
        by_cases hx : x = m
        · subst hx
          have : (l.filter fun y => y != x) = l := by
            rw [List.filter_eq_self]
            intro y hy
            have : y ≠ x := fun e => hn.1 (e ▸ hy)
            simpa using this
          simp [this]
        · have : (x != m) = true := by simpa using hx
          rw [if_pos this]
          have := ih hn.2
          simp; omega
    omega

theorem few_high {roll : Int} {ws : List Int} (hm : mayB roll ws = true) (bin : Nat → Nat) (m : Nat) (hb : ∀ j, j < ws.length → bin j < m) (hfit : ∀ b, b < m → load ws bin b ws.length ≤ roll) : ∀ (d : Nat) (bs : List Nat), d ≤ ws.length → bs.Nodup → (∀ b, b ∈ bs → b < m) →
    (∀ b, b ∉ bs → load ws bin b (ws.length - d) = 0) → fewW roll ws d (bs.map fun b => roll - load ws bin b (ws.length - d)) ≤ m
  | 0, bs, _, hn, hlt, _ => by
    have := nodup_le m bs hn hlt
    simp [fewW]; omega
  | d + 1, bs, hd, hn, hlt, hz => by
    have hk : ws.length - (d + 1) < ws.length := by omega
    have hw := may_w hm
    have ek : ws.length - d = ws.length - (d + 1) + 1 := by omega
    generalize hkk : ws.length - (d + 1) = k at *
    have ld : ∀ b, load ws bin b (ws.length - d) = load ws bin b k + if bin k = b then Wd ws k else 0 := fun b => by rw [ek, load]
    by_cases hin : bin k ∈ bs
    · obtain ⟨i, hi, hib⟩ := List.getElem_of_mem hin
      have hget : (bs.map fun b => roll - load ws bin b k).getD i 0 = roll - load ws bin (bin k) k := by simp [List.getD_eq_getElem?_getD, hi, hib]
      have hroom : load ws bin (bin k) (k + 1) ≤ roll := Int.le_trans (load_mono hw bin _ (by omega)) (hfit _ (hb k hk))
      simp only [load, if_true] at hroom
      have hge : (bs.map fun b => roll - load ws bin b k).getD i 0 ≥ Wd ws k := by rw [hget]; omega
      refine Int.le_trans (few_le_old (i := i) (by simpa using hi) (by rw [hkk]; exact hge)) ?_
      rw [hkk, hget]
      have e : (bs.map fun b => roll - load ws bin b k).set i (roll - load ws bin (bin k) k - Wd ws k) = bs.map fun b => roll - load ws bin b (ws.length - d) := by
        apply List.ext_getElem?
        intro j
        rw [List.getElem?_set]
        split
        · rename_i hij
          subst hij
          rw [if_pos (by simpa using hi)]
          simp [hi, hib, ld]; omega
        · rename_i hij
          simp only [List.getElem?_map]
          cases hj : bs[j]? with
          | none => rfl
          | some b =>
            have : bin k ≠ b := by
              intro e
              subst e
              have hjl := (List.getElem?_eq_some_iff.1 hj).1
              have hjx := (List.getElem?_eq_some_iff.1 hj).2
              exact hij ((List.getElem_inj hn).1 (hib.trans hjx.symm))
            simp [ld, this]
      rw [e]
      refine few_high hm bin m hb hfit d bs (by omega) hn hlt fun b hbn => ?_
      have : bin k ≠ b := fun e => hbn (e ▸ hin)
      rw [ld, hz b hbn, if_neg this]; rfl
    · refine Int.le_trans few_le_new ?_
      rw [hkk]
      have e : (bs.map fun b => roll - load ws bin b k) ++ [roll - Wd ws k] = (bs ++ [bin k]).map fun b => roll - load ws bin b (ws.length - d) := by
        rw [List.map_append]
        congr 1
        · refine List.map_congr_left fun b hbm => ?_
          have : bin k ≠ b := fun e => hin (e ▸ hbm)
          rw [ld, if_neg this]; omega
        · simp [ld, hz _ hin]
      rw [e]
      refine few_high hm bin m hb hfit d (bs ++ [bin k]) (by omega) ?_ ?_ ?_
      · rw [List.nodup_append]
        exact ⟨hn, by simp, fun a ha b hb' e => by simp at hb'; subst hb'; exact hin (e ▸ ha)⟩
      · intro b hbm
        rcases List.mem_append.1 hbm with h | h
        · exact hlt b h
        · simp at h; subst h; exact hb k hk
      · intro b hbn
        have h1 : b ∉ bs := fun h => hbn (by simp [h])
        have h2 : bin k ≠ b := fun h => hbn (by simp [h])
        rw [ld, hz b h1, if_neg h2]; rfl

/-! ### the code's own -/
theorem few_nat {roll : Int} {ws : List Int} : ∀ (d : Nat) (room : List Int), ∃ n : Nat, fewW roll ws d room = n
  | 0, room => ⟨room.length, rfl⟩
  | d + 1, room => by
    rw [fewW]
    refine foldl_inv (p := fun b => ∃ n : Nat, b = n) _ _ (few_nat d _) fun b i _ hb => ?_
    unfold fewStep
    split
    · split
      · exact few_nat d _
      · exact hb
    · exact hb

theorem few_runs {roll : Int} {ws : List Int} (hm : mayB roll ws = true) : ∀ (d : Nat) (room : List Int), d ≤ ws.length → Rooms roll room → room.length + d ≤ ws.length → f16 roll ws ((ws.length - d : Nat) : Int) room (fewW roll ws d room)
  | 0, room, _, _, _ => by
    unfold f16
    intro X hX
    refine hX _ ?_
    unfold f16_F
    simp only [Nat.sub_zero]
    exact IfB.intro (fun _ => rfl) (fun h => by simp at h)
  | d + 1, room, hd, hR, hlen => by
    obtain ⟨m1, m2, hn, m4⟩ := mayB_some hm
    have hk : ws.length - (d + 1) < ws.length := by omega
    obtain ⟨w0, w1⟩ := may_Wd hm hk
    have hw := may_w hm
    have ih := fun r hR' hl => few_runs hm d r (by omega) hR' hl
    have ek : IntKind.i64.wrap (((ws.length - (d + 1) : Nat) : Int) + 1) = ((ws.length - d : Nat) : Int) := by rw [wrap64 (by constructor <;> omega)]; omega
    have hnew := ih (room ++ [roll - Wd ws (ws.length - (d + 1))]) (rooms_new hR (by omega)) (by simp; omega)
    have wi : Idx ws ((ws.length - (d + 1) : Nat) : Int) (Wd ws (ws.length - (d + 1))) := wd_idx rfl hk
    unfold f16 at ih hnew ⊢
    intro X hX
    have ih' := fun r hR' hl => ih r hR' hl X hX
    have hnew' := hnew X hX
    refine hX _ ?_
    rw [fewW]
    generalize Wd ws (ws.length - (d + 1)) = w at *
    generalize hkz : ws.length - (d + 1) = k at *
    have er : IntKind.i64.wrap (roll - w) = roll - w := wrap64 (by constructor <;> omega)
    unfold f16_F
    simp only
    refine IfB.intro (fun h => by simp at h; omega) (fun _ => ?_)
    rw [ek]
    have hnew2 : X (roll, ws, ((ws.length - d : Nat) : Int), room ++ [IntKind.i64.wrap (roll - w)], fewW roll ws d (room ++ [roll - w])) := by
      have h := hnew'
      rw [er]; exact h
    cases room with
    | nil =>
      simp only [List.isEmpty_nil, IfB_true]
      refine ⟨w, wi, by simp [Fits], _, hnew2, ?_⟩
      refine LoopP.intro (fun s => s = (fewW roll ws d ([] ++ [roll - w]), 0)) (fun _ => 0) rfl ?_
      rintro X1 _ rfl _
      unfold f16_L1
      simp only
      exact IfB.dec (fun h => by simp at h) (fun _ => by simp)
    | cons r0 rs =>
      simp only [List.isEmpty_cons, IfB_false]
      generalize hroom : r0 :: rs = room at *
      refine ⟨by simp [Fits]; omega, w, wi, by simp [Fits]; omega, _, hnew2, ?_⟩
      refine LoopP.intro (fun s => ∃ i : Nat, i ≤ room.length ∧ s = ((List.range i).foldl (fewStep w room (fewW roll ws d)) (fewW roll ws d (room ++ [roll - w])), (i : Int))) (fun s => room.length - s.2.toNat) ⟨0, by omega, by simp⟩ ?_
      rintro X2 _ ⟨i, hi, rfl⟩ hX2
      unfold f16_L2
      simp only
      have wi1 : IntKind.i64.wrap ((i : Int) + 1) = ((i + 1 : Nat) : Int) := by rw [wrap64 (by constructor <;> omega)]; rfl
      rw [wi1]
      refine IfB.dec (fun h => ?_) (fun h => ?_)
      · have hlt : i < room.length := by omega
        have hget : room[i]? = some room[i] := List.getElem?_eq_getElem hlt
        have eg : room.getD i 0 = room[i] := by simp [List.getD_eq_getElem?_getD, hlt]
        have hidx : Idx room (i : Int) room[i] := ⟨by omega, by simp [hlt]⟩
        have hb := hR _ (List.getElem_mem hlt)
        have hset := rooms_set (w := w) hR hlt (by omega)
        have next : ∀ v, v = fewStep w room (fewW roll ws d) ((List.range i).foldl (fewStep w room (fewW roll ws d)) (fewW roll ws d (room ++ [roll - w]))) i → X2 (v, ((i + 1 : Nat) : Int)) := by
          rintro v rfl
          refine hX2 _ ⟨i + 1, hlt, ?_⟩ (by simp; omega)
          rw [List.range_succ, List.foldl_append]; rfl
        refine ⟨_, hidx, w, wi, IfB.dec (fun hge => ?_) (fun hlt2 => ?_)⟩
        · have hne : room.isEmpty = false := by rw [← hroom]; rfl
          rw [hne]
          simp only [IfB_false, List.nil_append]
          refine ⟨by simp [Fits]; omega, _, hidx, w, wi, _, hidx, ?_⟩
          rw [eg] at hset
          have e1 : IntKind.i64.wrap (room[i] - w) = room[i] - w := wrap64 (by constructor <;> omega)
          rw [e1, Int.toNat_natCast, ek]
          refine ⟨_, ih' _ (hset hge) (by simp; omega), IfB.dec (fun hc => next _ ?_) (fun hc => next _ ?_)⟩
          · rw [fewStep, eg, if_pos hge, if_pos hc]
          · rw [fewStep, eg, if_pos hge, if_neg hc]
        · refine next _ ?_
          rw [fewStep, eg, if_neg hlt2]
      · obtain rfl : i = room.length := by omega
        rfl

theorem law_least (roll : Int) (ws : List Int) : f5 roll ws true := by
  unfold f5
  refine IfB.dec (fun _ => ⟨true, rfl, by simp⟩) (fun h7 => ?_)
  refine IfB.dec (fun _ => ⟨true, rfl, by simp⟩) (fun hr1 => ?_)
  refine IfB.dec (fun _ => ⟨true, rfl, by simp⟩) (fun hr2 => ?_)
  cases hm : mayB roll ws with
  | false => exact ⟨false, hm.symm, by simp only [IfB_false]; exact ⟨true, rfl, by simp⟩⟩
  | true =>
    obtain ⟨m1, m2, hn, m4⟩ := mayB_some hm
    have hw := may_w hm
    obtain ⟨p1, p2, p3⟩ := pow_le12 hn
    have hpos := Nat.two_pow_pos ws.length
    obtain ⟨A, hA, hp, hf⟩ := first_ok hm
    have lenA : A.length = ws.length := by simpa using hp.length_eq
    have I := fold_inv hm hp A.length (Nat.le_refl _)
    rw [List.take_length] at I
    generalize fold roll ws A = out at I hf
    have hlen := I.len
    have ht := tot_le hw ws.length
    have hcnt : ∀ k, k < ws.length → cnt out k = 1 := fun k hk => by rw [I.cnt, if_pos (hp.mem_iff.2 (by simpa using hk))]
    -- at least
    have hS : wideL ws (2 ^ ws.length - 1) ws.length = tot ws ws.length := wideL_all _ (Nat.le_refl _)
    generalize hSd : tot ws ws.length = S at *
    have e12 : IntKind.i64.wrap ((1 : Int) * 2 ^ (min (Int.toNat (ws.length : Int)) (IntKind.bits .i64))) = 2 ^ ws.length := pow64 (by omega)
    have hleast : f11 roll ws ((S + roll - 1) / roll) := by
      refine ⟨true, hm.symm, ?_⟩
      simp only [IfB_true]
      refine ⟨by omega, S, ⟨?_, ?_, hn, hw, ?_⟩, by omega, ?_⟩
      · rw [e12, wrap64 (by constructor <;> omega)]; omega
      · rw [e12, wrap64 (by constructor <;> omega)]; omega
      · rw [e12, wrap64 (by constructor <;> omega)]; exact hS.symm
      · rw [wrap64 (n := S + roll) (by constructor <;> omega), wrap64 (n := S + roll - 1) (by constructor <;> omega), Int.tdiv_eq_ediv_of_nonneg (by omega), wrap64]
        have h1 : 0 ≤ (S + roll - 1) / roll := Int.ediv_nonneg (by omega) (by omega)
        have h2 : (S + roll - 1) / roll ≤ S + roll - 1 := Int.ediv_le_self _ (by omega)
        constructor <;> omega
    have hq0 : 0 ≤ (S + roll - 1) / roll := Int.ediv_nonneg (by omega) (by omega)
    have hq1 : (S + roll - 1) / roll ≤ S + roll - 1 := Int.ediv_le_self _ (by omega)
    have hq2 := Int.mul_ediv_add_emod (S + roll - 1) roll
    have hq3 := Int.emod_nonneg (S + roll - 1) (show roll ≠ 0 by omega)
    have hq4 := Int.emod_lt_of_pos (S + roll - 1) (show 0 < roll by omega)
    generalize (S + roll - 1) / roll = q at *
    generalize (S + roll - 1) % roll = rm at *
    rw [Int.mul_comm] at hq2
    -- the fewest
    have hfew := few_runs hm ws.length [] (Nat.le_refl _) (by intro x hx; cases hx) (by simp)
    simp only [Nat.sub_self] at hfew
    have hlow := few_low hm ws.length [] (Nat.le_refl _) (by intro x hx; cases hx)
    have hhigh : fewW roll ws ws.length [] ≤ out.length := by
      have hex : ∀ j, j < ws.length → out.findIdx (fun s => inSet s j) < out.length := by
        intro j hj
        rw [List.findIdx_lt_length]
        have h1 := hcnt j hj
        have : (out.filter fun s => inSet s j) ≠ [] := by intro e; rw [cnt, e] at h1; cases h1
        obtain ⟨s, hs⟩ := List.exists_mem_of_ne_nil _ this
        exact ⟨s, (List.mem_filter.1 hs).1, (List.mem_filter.1 hs).2⟩
      have := few_high hm (fun j => out.findIdx fun s => inSet s j) out.length hex (fun b hb => ?_) ws.length [] (Nat.le_refl _) List.nodup_nil (by simp) (by simp [load])
      · simpa using this
      · -- a set holds what is put there
        refine Int.le_trans ?_ (I.fit out[b] (List.getElem_mem hb))
        have key : ∀ k, k ≤ ws.length → load ws (fun j => out.findIdx fun s => inSet s j) b k ≤ wideL ws out[b] k := by
          intro k
          induction k with
          | zero => intro _; simp [load, wideL]
          | succ k ih =>
            intro hk
            have ih := ih (by omega)
            have wk := wd_in hw k
            simp only [load, wideL]
            by_cases e : (out.findIdx fun s => inSet s k) = b
            · have h2 := hex k (by omega)
              have h3 : inSet out[b] k = true := by
                have := List.findIdx_getElem (xs := out) (p := fun s => inSet s k) (w := h2)
                simpa [e] using this
              rw [if_pos e, if_pos h3]
              simp only [Wd] at *; omega
            · rw [if_neg e]
              split
              · simp only [Wd] at *; omega
              · omega
        exact key _ (Nat.le_refl _)
    obtain ⟨fz, hfz⟩ := few_nat (roll := roll) (ws := ws) ws.length []
    rw [hfz] at hlow hhigh hfew
    simp [hSd, tot] at hlow
    -- First's
    have hsum := sum_wide (ws := ws) (out := out) ws.length hcnt
    have hpairs := pairs_sum (roll := roll) (by omega) (out.map fun s => wideL ws s ws.length) (fun x hx => by
      obtain ⟨s, _, rfl⟩ := List.mem_map.1 hx
      exact wideL_nonneg hw s _) (fun i a b ha hb => by
        simp only [List.getElem?_map, Option.map_eq_some_iff] at ha hb
        obtain ⟨a', ha', rfl⟩ := ha
        obtain ⟨b', hb', rfl⟩ := hb
        exact I.full i a' b' ha' hb')
    rw [hsum, hSd, List.length_map] at hpairs
    have hfirst : (out.length : Int) < 2 * q + 1 := by
      rcases Nat.lt_or_ge out.length 2 with h | h
      · rcases Nat.eq_zero_or_pos out.length with h0 | h0
        · omega
        · -- one set: it has something in it
          have h1 : out.length = 1 := by omega
          have hq : 0 < q := by
            rcases Int.lt_or_le 0 q with h | h
            · exact h
            · exfalso
              have : q = 0 := by omega
              subst this
              have hS0 : S = 0 := by omega
              -- all widths would be nought
              have hn0 : ws.length = 0 := by
                rcases Nat.eq_zero_or_pos ws.length with h | h
                · exact h
                · exfalso
                  have w0 := may_Wd hm (k := ws.length - 1) (by omega)
                  have e : tot ws ws.length = tot ws (ws.length - 1) + Wd ws (ws.length - 1) := by
                    conv => lhs; rw [show ws.length = ws.length - 1 + 1 by omega]
                    rfl
                  have := tot_le hw (ws.length - 1)
                  omega
              omega
          omega
      · have h2 := hpairs.2 h
        have : ((out.length / 2 : Nat) : Int) < q := by
          rcases Int.lt_or_le ((out.length / 2 : Nat) : Int) q with h3 | h3
          · exact h3
          · exfalso
            have : q * roll ≤ ((out.length / 2 : Nat) : Int) * roll := Int.mul_le_mul_of_nonneg_right h3 (by omega)
            omega
        omega
    have hqf : q ≤ fz := by
      rcases Int.lt_or_le (fz : Int) q with h | h
      · exfalso
        have : (fz : Int) * roll ≤ (q - 1) * roll := Int.mul_le_mul_of_nonneg_right (by omega) (by omega)
        rw [Int.sub_mul] at this
        omega
      · exact h
    refine ⟨true, hm.symm, ?_⟩
    simp only [IfB_true]
    refine ⟨q, hleast, out, hf, _, hfew, ?_⟩
    refine LoopP.intro (fun s => ∃ i : Nat, i ≤ ws.length ∧ s = (tot ws i, (i : Int))) (fun s => ws.length - s.2.toNat) ⟨0, by omega, rfl⟩ ?_
    rintro X _ ⟨i, hi, rfl⟩ hX
    unfold f5_L1
    simp only
    refine IfB.dec (fun h => ?_) (fun h => ?_)
    · have hlt : i < ws.length := by omega
      have t1 := tot_le hw i
      have t2 := wd_in hw i
      refine ⟨_, wd_idx rfl hlt, ?_⟩
      rw [wrap64 (n := tot ws i + Wd ws i) (by constructor <;> omega), wrap64 (n := (i : Int) + 1) (by constructor <;> omega)]
      exact hX _ ⟨i + 1, by omega, rfl⟩ (by simp; omega)
    · obtain rfl : i = ws.length := by omega
      rw [hSd]
      have b1 : q * roll = S + roll - 1 - rm := by omega
      have b2 : (q - 1) * roll = S - 1 - rm := by rw [Int.sub_mul]; omega
      rw [wrap64 (n := q * roll) (by constructor <;> omega), wrap64 (n := q - 1) (by constructor <;> omega), wrap64 (n := (q - 1) * roll) (by constructor <;> omega), wrap64 (n := 2 * q) (by constructor <;> omega), wrap64 (n := 2 * q + 1) (by constructor <;> omega)]
      refine IfB.dec (fun _ => ?_) (fun h => by omega)
      refine IfB.dec (fun _ => ?_) (fun h => by omega)
      refine IfB.dec (fun _ => ?_) (fun h => by omega)
      refine IfB.dec (fun _ => ?_) (fun h => by omega)
      refine IfB.dec (fun _ => ?_) (fun h => by omega)
      exact ⟨true, rfl, by simp⟩

end Go.Abs
