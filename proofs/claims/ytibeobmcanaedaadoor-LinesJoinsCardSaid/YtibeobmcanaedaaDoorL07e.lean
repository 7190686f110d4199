/- Chapter 07, plain: words without blanks and #, joined, are one line of them. -/
import Derived.Test.YtibeobmcanaedaaDoorL07c
import Derived.Test.YtibeobmcanaedaaDoorG07eD
namespace Go.Abs
set_option linter.unusedVariables false
set_option linter.unusedSimpArgs false
set_option linter.unnecessarySimpa false

theorem LoopP.once {σ : Type} {F : (σ → Prop) → σ → Prop} {s : σ} (h : ∀ X : σ → Prop, (∀ s, F X s → X s) → F X s) : LoopP F s := fun X hX => hX s (h X hX)

/-- A sign that is no ASCII, as bytes. -/
theorem encode_hi {r : Int} (hr : 128 ≤ r) : ∃ (pre : List UInt8) (b : UInt8), (Utf8.encode r).data.toList = pre ++ [b] ∧ 128 ≤ b.toNat ∧ pre.length ≤ 3 := by
  unfold Utf8.encode
  generalize hc : (if Utf8.valid r = true then r.toNat else Utf8.runeError) = c
  have h128 : 128 ≤ c := by
    rw [← hc]
    split
    · omega
    · decide
  have hb : 128 ≤ (UInt8.ofNat (128 + c % 64)).toNat := by simp; omega
  simp only
  split
  · omega
  split
  · exact ⟨[_], _, rfl, hb, by simp⟩
  split
  · exact ⟨[_, _], _, rfl, hb, by simp⟩
  · exact ⟨[_, _, _], _, rfl, hb, by simp⟩

theorem indexByte_none {c : UInt8} : ∀ {l : List UInt8}, (∀ b, b ∈ l → b ≠ c) → Lib.indexByte l c = -1 := by
  intro l h
  have := Lib.contains_iff_indexByte l c
  have h1 : l.contains c = false := by
    rw [List.contains_eq_mem, decide_eq_false_iff_not]
    exact fun hc => h c hc rfl
  rw [h1] at this
  have h2 : ¬ (0 ≤ Lib.indexByte l c) := of_decide_eq_false this.symm
  rw [← Lib.index_one] at h2 ⊢
  have := Lib.index_ge l [c]
  omega

theorem f84_hi {p : List UInt8} {r : Int} (hp : Ascii p) (hl : p.length ≤ 1000) (hr : 128 ≤ r) : f84 p r (-1) := by
  unfold f84
  refine IfB.dec (fun _ => IfB.dec (fun h => by omega) (fun _ => IfB.eqi (fun _ => ?_) (fun _ => ?_))) (fun h => by omega)
  · refine LoopP.intro (fun k => k ≤ p.length) (fun k => p.length - k) (Nat.zero_le _) ?_
    intro X k hk hX
    unfold f84_L1
    refine IfB.dec (fun hlt => ?_) (fun _ => rfl)
    have hb := List.getElem?_eq_getElem hlt
    have h128 := hp _ (List.mem_of_getElem? hb)
    rcases rune_at hb with ⟨_, h2, h3⟩ | ⟨h1, _, _⟩
    · rw [h2, h3]
      exact IfB.eqi (fun h => by omega) (fun _ => hX _ hlt (by omega))
    · omega
  · have tot : ∃ x, f111 r x := by
      unfold f111
      by_cases h1 : r < 55296
      · exact ⟨true, IfB.dec (fun _ => IfB.dec (fun _ => rfl) (fun h => absurd h1 h)) (fun h => by omega)⟩
      by_cases h2 : 57343 < r ∧ r ≤ 1114111
      · exact ⟨true, IfB.dec (fun _ => IfB.dec (fun h => absurd h h1) (fun _ => IfB.dec (fun _ => IfB.dec (fun _ => rfl) (fun h => by omega)) (fun h => by omega))) (fun h => by omega)⟩
      · exact ⟨false, IfB.dec (fun _ => IfB.dec (fun h => absurd h h1) (fun _ => IfB.dec (fun _ => IfB.dec (fun h => by omega) (fun _ => rfl)) (fun _ => rfl))) (fun h => by omega)⟩
    obtain ⟨x, hx⟩ := tot
    refine ⟨x, hx, IfB.bool (fun _ => LoopP.once fun X hX => ?_) (fun _ => rfl)⟩
    obtain ⟨pre, b, e, hb, hpre⟩ := encode_hi hr
    unfold f84_L2
    rw [e]
    have el : ((pre ++ [b]).length : Int) - 1 = pre.length := by simp
    rw [el, wrap64 (by constructor <;> omega)]
    refine IfB.dec (fun hlt => ?_) (fun _ => rfl)
    have hlt' : pre.length < p.length := by omega
    have hc := List.getElem?_eq_getElem hlt'
    have h128 := hp _ (List.mem_of_getElem? hc)
    have ib : Idx (pre ++ [b]) (pre.length : Int) b := ⟨by omega, by simp⟩
    refine ⟨p[pre.length], ⟨by omega, by rw [Int.toNat_natCast]; exact hc⟩, b, ib, IfB.nei (fun _ => ?_) (fun h => by omega)⟩
    rw [wrap64 (n := (pre.length : Int) + 1) (by constructor <;> omega)]
    refine ⟨⟨by omega, by omega, by omega⟩, b, ib, -1, ?_, IfB.dec (fun _ => rfl) (fun h => by omega)⟩
    unfold f110
    have hbb : ((b.toNat : Nat) : Int).toNat.toUInt8 = b := by simp
    rw [hbb]
    refine (indexByte_none fun d hd e2 => ?_).symm
    unfold sub at hd
    have hd' := List.mem_of_mem_drop (List.mem_of_mem_take hd)
    have := hp d hd'
    rw [e2] at this
    omega

theorem f84_lo {p : List UInt8} {r : Int} (h0 : 0 ≤ r) (hr : r < 128) : ∃ x, f84 p r x := by
  refine ⟨Lib.indexByte p (IntKind.u8.wrap r).toNat.toUInt8, ?_⟩
  unfold f84
  exact IfB.dec (fun _ => IfB.dec (fun _ => ⟨_, rfl, rfl⟩) (fun h => absurd hr h)) (fun h => absurd h0 h)

theorem f47_some {s chars : List UInt8} (h8 : s.length ≤ 8) (h2 : 2 ≤ chars.length) (hl : chars.length ≤ 1000) (hc : Ascii chars) : ∃ x, f47 s chars x := by
  have loop : ∀ (j k : Nat), s.length - k ≤ j → ∃ x, LoopP (f47_L1 s chars x) k := by
    intro j
    induction j with
    | zero =>
      intro k hk
      refine ⟨-1, LoopP.once fun X hX => ?_⟩
      unfold f47_L1
      exact IfB.dec (fun h => by omega) (fun _ => rfl)
    | succ j ih =>
      intro k hk
      by_cases hlt : k < s.length
      · have hb := List.getElem?_eq_getElem hlt
        obtain ⟨y, hy, hn⟩ : ∃ y, f84 chars (runeAt s k) y ∧ 1 ≤ runeLen s k := by
          rcases rune_at hb with ⟨h1, e, h3⟩ | ⟨_, h3, h4⟩
          · obtain ⟨y, hy⟩ := f84_lo (p := chars) (r := runeAt s k) (by rw [e]; omega) (by rw [e]; omega)
            exact ⟨y, hy, by omega⟩
          · exact ⟨-1, f84_hi hc hl h3, h4⟩
        by_cases hy0 : 0 ≤ y
        · refine ⟨k, LoopP.once fun X hX => ?_⟩
          unfold f47_L1
          exact IfB.dec (fun _ => ⟨y, hy, IfB.dec (fun _ => rfl) (fun h => absurd hy0 h)⟩) (fun h => absurd hlt h)
        · obtain ⟨x, hx⟩ := ih (k + runeLen s k) (by omega)
          refine ⟨x, LoopP.once fun X hX => ?_⟩
          have hn := hx X hX
          unfold f47_L1
          exact IfB.dec (fun _ => ⟨y, hy, IfB.dec (fun h => absurd h hy0) (fun _ => hn)⟩) (fun h => absurd hlt h)
      · exact ih k (by omega)
  obtain ⟨x, hx⟩ := loop s.length 0 (by omega)
  refine ⟨x, ?_⟩
  unfold f47
  refine IfB.intro (fun h => ?_) (fun _ => IfB.eqi (fun h => by omega) (fun _ => ⟨false, ?_, IfB_false.2 hx⟩))
  · have : chars = [] := by simpa using h
    rw [this] at h2; simp at h2
  · unfold f85
    exact IfB.dec (fun h => by omega) (fun _ => rfl)

theorem f22a_some {s chars : List UInt8} (hs : s.length ≤ 1000) (h2 : 2 ≤ chars.length) (hl : chars.length ≤ 1000) (hc : Ascii chars) : ∃ x, f22a s chars x := by
  obtain ⟨y, hy⟩ : ∃ y, f47m s chars y := by
    by_cases h8 : 8 < s.length
    · exact ⟨_, .inl ⟨h8, by unfold Short; omega, h2, by unfold Short; omega, hc, rfl⟩⟩
    · obtain ⟨x, hx⟩ := f47_some (s := s) (by omega) h2 hl hc
      exact ⟨x, .inr hx⟩
  by_cases h : 0 ≤ y
  · exact ⟨true, .inr ⟨y, hy, IfB.dec (fun _ => rfl) (fun h' => absurd h h')⟩⟩
  · exact ⟨false, .inr ⟨y, hy, IfB.dec (fun h' => absurd h' h) (fun _ => rfl)⟩⟩

/-! ### words joined, and taken apart -/
theorem fields_word : ∀ (w t cur : List UInt8), (∀ b, b ∈ w → Lib.isSp b = false) → Lib.fieldsGo cur (w ++ t) = Lib.fieldsGo (cur ++ w) t
  | [], t, cur, _ => by simp
  | b :: w, t, cur, h => by
    rw [List.cons_append, Lib.fieldsGo, if_neg (by rw [h b (by simp)]; simp), fields_word w t (cur ++ [b]) fun c hc => h c (by simp [hc])]
    simp
theorem fields_tail : ∀ (r : List (List UInt8)) (cur : List UInt8), cur ≠ [] → (∀ w, w ∈ r → w ≠ [] ∧ ∀ b, b ∈ w → Lib.isSp b = false) → Lib.fieldsGo cur (Lib.joinTail [32] r) = cur :: r
  | [], cur, h, _ => by cases cur <;> simp [Lib.joinTail, Lib.fieldsGo] at h ⊢
  | y :: r, cur, h, hr => by
    obtain ⟨h1, h2⟩ := hr y (by simp)
    have e : Lib.joinTail [32] (y :: r) = 32 :: (y ++ Lib.joinTail [32] r) := by simp [Lib.joinTail]
    have e2 : Lib.fieldsGo cur (32 :: (y ++ Lib.joinTail [32] r)) = if cur.isEmpty then Lib.fieldsGo [] (y ++ Lib.joinTail [32] r) else cur :: Lib.fieldsGo [] (y ++ Lib.joinTail [32] r) := rfl
    rw [e, e2, fields_word _ _ _ h2, List.nil_append, fields_tail r y h1 fun w hw => hr w (by simp [hw])]
    cases cur with
    | nil => exact absurd rfl h
    | cons c t => rfl
theorem fields_join {l : List (List UInt8)} (h : ∀ w, w ∈ l → w ≠ [] ∧ ∀ b, b ∈ w → Lib.isSp b = false) : Lib.fields (Lib.join l [32]) = l := by
  cases l with
  | nil => rfl
  | cons x r =>
    obtain ⟨h1, h2⟩ := h x (by simp)
    unfold Lib.fields
    rw [Lib.join_cons, fields_word _ _ _ h2, List.nil_append, fields_tail r x h1 fun w hw => h w (by simp [hw])]

def mkB (s : List UInt8) : ByteArray := ⟨s.toArray⟩
theorem mkB_inj {a b : List UInt8} (h : mkB a = mkB b) : a = b := by
  have : (mkB a).data.toList = (mkB b).data.toList := by rw [h]
  simpa [mkB] using this

/-- A word that the law lets in. -/
def okW (w : List UInt8) : Prop := w ≠ [] ∧ w.length ≤ 40 ∧ RightP w ∧ ∀ b, b ∈ w → b ≠ 32 ∧ b ≠ 35 ∧ b ≠ 10

theorem okW.sp {w : List UInt8} (h : okW w) : ∀ b, b ∈ w → Lib.isSp b = false := fun b hb => by
  have hm := h.2.2.1.mem hb
  obtain ⟨n32, _, n10⟩ := h.2.2.2 b hb
  unfold mayB at hm
  have k : ∀ c : Nat, c < 256 → b.toNat ≠ c → (b == c.toUInt8) = false := fun c hc h => by
    rw [beq_eq_false_iff_ne]; intro e; apply h; rw [e]; simp; omega
  have t10 : b.toNat ≠ 10 := fun e => n10 (by rw [← UInt8.toNat_inj]; exact e)
  have t32 : b.toNat ≠ 32 := fun e => n32 (by rw [← UInt8.toNat_inj]; exact e)
  have h9 := k 9 (by decide) (by omega); have h10' := k 10 (by decide) t10; have h11 := k 11 (by decide) (by omega); have h12 := k 12 (by decide) (by omega); have h13 := k 13 (by decide) (by omega); have h32' := k 32 (by decide) t32
  unfold Lib.isSp
  simp at h9 h10' h11 h12 h13 h32' ⊢
  exact ⟨⟨⟨⟨⟨h9, h10'⟩, h11⟩, h12⟩, h13⟩, h32'⟩

theorem join_mem : ∀ {l : List (List UInt8)} {b : UInt8}, b ∈ Lib.join l [32] → b = 32 ∨ ∃ w, w ∈ l ∧ b ∈ w
  | [], b, h => by rw [Lib.join_nil] at h; simp at h
  | x :: r, b, h => by
    rw [Lib.join_cons, List.mem_append] at h
    rcases h with h | h
    · exact .inr ⟨x, by simp, h⟩
    · unfold Lib.joinTail at h
      rw [List.mem_flatten] at h
      obtain ⟨t, ht, hb⟩ := h
      rw [List.mem_map] at ht
      obtain ⟨w, hw, rfl⟩ := ht
      simp only [List.mem_append, List.mem_singleton] at hb
      rcases hb with h | h
      · exact .inl h
      · exact .inr ⟨w, by simp [hw], h⟩

theorem wlen_le {l : List (List UInt8)} (h : ∀ w, w ∈ l → w.length ≤ 40) : wlen l ≤ 41 * l.length := by
  induction l with
  | nil => simp [wlen]
  | cons x l ih =>
    have h1 := h x (by simp)
    have h2 := ih fun w hw => h w (by simp [hw])
    simp [wlen] at h2 ⊢
    omega

theorem allL_join {l : List (List UInt8)} (h : ∀ w, w ∈ l → okW w) : RightP (Lib.join l [32]) ∧ allL (Lib.join l [32]) = if l = [] then [] else [(1, l)] := by
  have hm : ∀ b, b ∈ Lib.join l [32] → mayB b ∧ b ≠ 10 ∧ b ≠ 35 := fun b hb => by
    rcases join_mem hb with rfl | ⟨w, hw, hb⟩
    · exact ⟨.inr (by decide), by decide, by decide⟩
    · have := h w hw
      exact ⟨this.2.2.1.mem hb, (this.2.2.2 b hb).2.2, (this.2.2.2 b hb).2.1⟩
  refine ⟨fun i b _ hb => (hm b (List.mem_of_getElem? hb)).1, ?_⟩
  unfold allL
  rw [split_none fun b hb => (hm b hb).2.1]
  have hw : wordsOf (Lib.join l [32]) = l := by
    unfold wordsOf
    rw [head_none fun b hb => (hm b hb).2.2]
    exact fields_join fun w hw => ⟨(h w hw).1, (h w hw).sp⟩
  simp only [linesFrom, hw]
  cases l with
  | nil => simp
  | cons x r => simp

theorem law_joins (l : List (List UInt8)) (s : List UInt8) : f7 l s true := by
  unfold f7
  refine IfB.dec (fun _ => ⟨true, rfl, by simp⟩) (fun hl => IfB.dec (fun _ => ⟨true, rfl, by simp⟩) (fun hs => ?_))
  refine LoopP.intro (fun z : Int => ∃ k : Nat, z = k ∧ k ≤ l.length ∧ ∀ i w, i < k → l[i]? = some w → okW w) (fun z => l.length - z.toNat) ⟨0, rfl, Nat.zero_le _, fun i w h => by omega⟩ ?_
  rintro X _ ⟨k, rfl, hk, hJ⟩ hX
  unfold f7_L1
  refine IfB.dec (fun hlt => ?_) (fun hge => ?_)
  · have hlt' : k < l.length := by omega
    have hb := List.getElem?_eq_getElem hlt'
    generalize l[k] = w at hb
    refine ⟨w, ⟨by omega, by rw [Int.toNat_natCast]; exact hb⟩, IfB.dec (fun _ => ⟨true, rfl, by simp⟩) (fun h40 => IfB.bool (fun _ => ⟨true, rfl, by simp⟩) (fun hne => ?_))⟩
    have hne : w ≠ [] := by simpa using hne
    have hac : Ascii [32, 35, 10] := fun b hb => by simp at hb; rcases hb with rfl | rfl | rfl <;> decide
    by_cases ha : Ascii w
    · refine ⟨Lib.containsAny w [32, 35, 10], .inl ⟨by unfold Short; omega, by unfold Short; simp, ha, hac, rfl⟩, IfB.bool (fun _ => ⟨true, rfl, by simp⟩) (fun hc => ?_)⟩
      have hno := contains_any_false hc
      by_cases hr : RightP w
      · refine ⟨true, f11_says (by omega) (by simp [hr]), IfB_true.2 ?_⟩
        rw [wrap64 (by constructor <;> omega)]
        refine hX _ ⟨k + 1, by simp, hlt', fun i v hi hv => ?_⟩ (by omega)
        by_cases e : i = k
        · subst e
          rw [hb] at hv; cases hv
          exact ⟨hne, by omega, hr, fun b hb => ⟨fun e => hno b hb (by simp [e]), fun e => hno b hb (by simp [e]), fun e => hno b hb (by simp [e])⟩⟩
        · exact hJ i v (by omega) hv
      · exact ⟨false, f11_says (by omega) (by simp [hr]), IfB_false.2 ⟨true, rfl, by simp⟩⟩
    · obtain ⟨x, hx⟩ := f22a_some (s := w) (chars := [32, 35, 10]) (by omega) (by simp) (by simp) hac
      have hr : ¬ RightP w := fun h => ha fun b hb => by have := h.mem hb; unfold mayB at this; omega
      exact ⟨x, hx, IfB.bool (fun _ => ⟨true, rfl, by simp⟩) (fun _ => ⟨false, f11_says (by omega) (by simp [hr]), IfB_false.2 ⟨true, rfl, by simp⟩⟩)⟩
  · have hall : ∀ w, w ∈ l → okW w := fun w hw => by
      obtain ⟨i, hi, e⟩ := List.getElem_of_mem hw
      exact hJ i w (by omega) (by rw [List.getElem?_eq_getElem hi, e])
    have hw40 : wlen l ≤ 41 * l.length := wlen_le fun w hw => (hall w hw).2.1
    obtain ⟨hrj, haj⟩ := allL_join hall
    refine LoopP.intro (fun z : Int × Int => ∃ j : Nat, z.2 = (j : Int) - 1 ∧ j ≤ l.length ∧ z.1 = Lib.idxFromS ((l.map mkB).drop j) (mkB s) j) (fun z => (z.2 + 1).toNat) ⟨l.length, by rw [wrap64 (by constructor <;> omega)], Nat.le_refl _, by rw [List.drop_of_length_le (by simp)]; rfl⟩ ?_
    rintro X ⟨at_, z⟩ ⟨j, hz, hj, ha⟩ hX
    simp only at hz ha
    subst hz
    unfold f7_L2
    refine IfB.dec (fun h0 => ?_) (fun h0 => ?_)
    · obtain ⟨i, rfl⟩ : ∃ i, j = i + 1 := ⟨j - 1, by omega⟩
      have hi : i < l.length := by omega
      have ei : ((i + 1 : Nat) : Int) - 1 = i := by simp
      rw [ei]
      have hd : (l.map mkB).drop i = mkB l[i] :: (l.map mkB).drop (i + 1) := by
        rw [List.drop_eq_getElem_cons (by simpa using hi)]
        simp
      rw [wrap64 (by constructor <;> omega)]
      refine ⟨l[i], ⟨by omega, by rw [Int.toNat_natCast]; exact List.getElem?_eq_getElem hi⟩, IfB.bool (fun he => ?_) (fun he => ?_)⟩
      · have he : l[i] = s := by simpa using he
        refine hX _ ⟨i, rfl, by omega, ?_⟩ (by simp)
        simp only
        rw [hd, Lib.idxFromS, if_pos (by rw [he])]
      · have he : l[i] ≠ s := by simpa using he
        refine hX _ ⟨i, rfl, by omega, ?_⟩ (by simp)
        simp only
        rw [hd, Lib.idxFromS, if_neg (fun e => he (mkB_inj e))]
        exact ha
    · obtain rfl : j = 0 := by omega
      have hjl : (Lib.join l [32]).length ≤ 2050 := by have := join_len 32 l; omega
      have h13 : f13 l [32] (Lib.join l [32]) := f13_says (by omega)
      refine ⟨Lib.join l [32], ⟨_, h13, rfl⟩, allL (Lib.join l [32]), 0, f10_says (by omega) hrj, at_, ⟨at_, ⟨by omega, ha⟩, rfl⟩, ?_⟩
      refine IfB.nei (fun h => absurd rfl h) (fun _ => IfB.nei (fun h => absurd rfl h) (fun _ => IfB.eqi (fun h => ?_) (fun h => ?_)))
      · have : l = [] := List.length_eq_zero_iff.1 (by omega)
        rw [haj, if_pos this]
        exact IfB.eqi (fun _ => ⟨true, rfl, by simp⟩) (fun h => absurd rfl h)
      · have : l ≠ [] := fun e => h (by rw [e]; rfl)
        rw [haj, if_neg this]
        exact IfB.eqi (fun _ => ⟨1, l, ⟨by omega, rfl⟩, IfB.eqi (fun _ => ⟨1, l, ⟨by omega, rfl⟩, _, h13, _, h13, IfB.bool (fun _ => ⟨true, rfl, by simp⟩) (fun h => by simp at h)⟩) (fun h => absurd rfl h)⟩) (fun h => absurd rfl h)
end Go.Abs
