/- Numbers as decimal texts, plain: what the references of layers 1 to 3 come to. -/
import Derived.Test.YtdbfgnpobfbfmaaDoorLRat
import Derived.Test.YtdbfgnpobfbfmaaDoorDStr
namespace Go.Abs
open Go
set_option linter.unusedVariables false
set_option linter.unusedSimpArgs false
set_option linter.unnecessarySimpa false

/-- A digit. -/
def dch (n : Nat) : UInt8 := UInt8.ofNat (48 + n)
theorem dch_nat {n : Nat} (h : n ≤ 9) : (dch n).toNat = 48 + n := by
  unfold dch; rw [UInt8.toNat_ofNat_of_lt' (by show 48 + n < 256; omega)]
theorem dch_dg {n : Nat} (h : n ≤ 9) : dg (dch n) := by unfold dg; rw [dch_nat h]; omega
theorem dch_of {b : UInt8} (h : dg b) : dch (b.toNat - 48) = b := by
  unfold dg at h
  apply UInt8.toNat_inj.1
  rw [dch_nat (by omega)]; omega
/-- A number's text. -/
def decT (n : Nat) : By := if h : n < 10 then [dch n] else decT (n / 10) ++ [dch (n % 10)]
termination_by n
decreasing_by omega
theorem decT_lt {n : Nat} (h : n < 10) : decT n = [dch n] := by rw [decT]; simp [h]
theorem decT_ge {n : Nat} (h : 10 ≤ n) : decT n = decT (n / 10) ++ [dch (n % 10)] := by rw [decT]; simp [show ¬ n < 10 by omega]
theorem allDg_one {b : UInt8} (h : dg b) : allDg [b] := by intro c hc; simp at hc; subst hc; exact h
theorem allDg_cons {b : UInt8} {l : By} : allDg (b :: l) ↔ dg b ∧ allDg l := by simp [allDg]
theorem decT_facts (n : Nat) : decT n ≠ [] ∧ allDg (decT n) ∧ dV 0 (decT n) = n ∧ (0 < n → (decT n).head? ≠ some 48) := by
  induction n using Nat.strongRecOn with
  | _ n ih =>
    by_cases h : n < 10
    · rw [decT_lt h]
      refine ⟨by simp, allDg_one (dch_dg (by omega)), by rw [dV_one, dch_nat (by omega)]; omega, fun h0 => ?_⟩
      simp only [List.head?_cons, ne_eq, Option.some.injEq]
      intro e
      have := congrArg UInt8.toNat e
      rw [dch_nat (by omega)] at this
      have h48 : (48 : UInt8).toNat = 48 := rfl
      omega
    · have hi := ih (n / 10) (by omega)
      rw [decT_ge (by omega)]
      refine ⟨by simp, allDg_app.2 ⟨hi.2.1, allDg_one (dch_dg (by omega))⟩, ?_, fun _ => ?_⟩
      · rw [dV_app0, dV_one, hi.2.2.1, dch_nat (by omega)]; simp; omega
      · rw [List.head?_append]
        have := hi.2.2.2 (by omega)
        cases hh : (decT (n / 10)).head? with
        | none => exact absurd (List.head?_eq_none_iff.1 hh) hi.1
        | some c => rw [hh] at this; simpa using this
theorem decT_ne (n : Nat) : decT n ≠ [] := (decT_facts n).1
theorem decT_dg (n : Nat) : allDg (decT n) := (decT_facts n).2.1
theorem dV_decT (n : Nat) : dV 0 (decT n) = n := (decT_facts n).2.2.1
theorem decT_inj {m n : Nat} (h : decT m = decT n) : m = n := by have := congrArg (dV 0) h; rwa [dV_decT, dV_decT] at this
theorem decT_len : ∀ (k n : Nat), n < 10 ^ (k + 1) → (decT n).length ≤ k + 1
  | 0, n, h => by rw [decT_lt (by simpa using h)]; simp
  | k + 1, n, h => by
    by_cases hn : n < 10
    · rw [decT_lt hn]; simp
    · rw [decT_ge (by omega), List.length_append]
      have := decT_len k (n / 10) (by rw [Nat.pow_succ] at h; omega)
      simp; omega
theorem decT_pos (n : Nat) : 0 < (decT n).length := List.length_pos_iff.2 (decT_ne n)
theorem divA (q P r : Nat) (h : r < P) : (q * P + r) / P = q := by
  rw [Nat.mul_comm, Nat.mul_add_div (by omega), Nat.div_eq_of_lt h]; omega
theorem dV_eq_len : ∀ {a b : By}, allDg a → allDg b → a.length = b.length → dV 0 a = dV 0 b → a = b
  | [], [], _, _, _, _ => rfl
  | x :: a, y :: b, ha, hb, hl, hv => by
    have ha := allDg_cons.1 ha
    have hb := allDg_cons.1 hb
    have hl : a.length = b.length := by simpa using hl
    rw [dV_cons, dV_cons, dV_acc a, dV_acc b, hl] at hv
    have h1 := dV_lt a ha.2
    have h2 := dV_lt b hb.2
    rw [hl] at h1
    have h3 := ha.1; have h4 := hb.1
    unfold dg at h3 h4
    have e1 := divA (0 * 10 + (x.toNat - 48)) (10 ^ b.length) (dV 0 a) h1
    have e2 := divA (0 * 10 + (y.toNat - 48)) (10 ^ b.length) (dV 0 b) h2
    have e : x.toNat - 48 = y.toNat - 48 := by
      rw [hv] at e1
      omega
    rw [e] at hv
    have hxy : x = y := UInt8.toNat_inj.1 (by omega)
    rw [hxy, dV_eq_len ha.2 hb.2 hl (by omega)]
/-- Digits without a nought ahead are a number's text. -/
theorem decT_of {s : By} (hd : allDg s) (hne : s ≠ []) (h0 : 1 < s.length → s.head? ≠ some 48) : s = decT (dV 0 s) := by
  refine dV_eq_len hd (decT_dg _) ?_ (dV_decT _).symm
  have h1 := dV_lt s hd
  have hp := List.length_pos_iff.2 hne
  have h2 := decT_len (s.length - 1) (dV 0 s) (by rw [show s.length - 1 + 1 = s.length from by omega]; exact h1)
  rcases Nat.lt_or_ge (decT (dV 0 s)).length s.length with hlt | hge
  · exfalso
    have hp2 := decT_pos (dV 0 s)
    have h3 := dV_lt _ (decT_dg (dV 0 s))
    rw [dV_decT] at h3
    cases s with
    | nil => exact hne rfl
    | cons b l =>
      have hb := allDg_cons.1 hd
      have hb1 := hb.1
      unfold dg at hb1
      have hnb := h0 (by omega)
      simp only [List.head?_cons, ne_eq, Option.some.injEq] at hnb
      have hb48 : b.toNat ≠ 48 := fun e => hnb (UInt8.toNat_inj.1 e)
      generalize (decT (dV 0 (b :: l))).length = L at *
      rw [dV_cons, dV_acc] at h3
      have h5 : 10 ^ L ≤ 10 ^ l.length := Nat.pow_le_pow_right (by omega) (by simp at hlt; omega)
      have h6 : 1 * 10 ^ l.length ≤ (0 * 10 + (b.toNat - 48)) * 10 ^ l.length := Nat.mul_le_mul_right _ (by omega)
      omega
  · omega

theorem sign_says (n : Nat) (h : n ≤ 9) : offcutref01_sign (n : Int) [dch n] := by
  unfold offcutref01_sign
  rw [wrap64' (by omega) (by omega)]
  refine ⟨⟨by omega, by omega, by simp; omega⟩, ?_⟩
  have : ∀ k : Fin 10, [dch k.val] = sub ([48, 49, 50, 51, 52, 53, 54, 55, 56, 57] : List UInt8) (k.val : Int) ((k.val : Int) + 1) := by decide
  exact this ⟨n, by omega⟩

theorem cut_says (s : By) (hd : allDg s) (hl : s.length ≤ 1000000) : offcutref01_cut s (decT (dV 0 s)) := by
  unfold offcutref01_cut
  refine LoopP.intro (fun z : By => allDg z ∧ dV 0 z = dV 0 s ∧ z.length ≤ s.length) (fun z => z.length) ⟨hd, rfl, Nat.le_refl _⟩ ?_
  rintro X z ⟨hz, hv, hlz⟩ hX
  unfold offcutref01_cut_L1
  rw [← hv]
  have fin : (1 < z.length → z.head? ≠ some 48) → IfB (z == ([] : List UInt8)) (decT (dV 0 z) = ([48] : List UInt8)) (decT (dV 0 z) = z) := fun h => by
    refine IfB.intro (fun h0 => ?_) (fun h0 => ?_)
    · have : z = [] := by simpa using h0
      subst this
      rw [dV_nil, decT_lt (by omega)]; rfl
    · exact (decT_of hz (by simpa using h0) h).symm
  refine IfB.dec (fun h1 => ?_) (fun h1 => fin fun h => by omega)
  cases z with
  | nil => simp at h1
  | cons b l =>
    refine ⟨b, ⟨by omega, rfl⟩, IfB.eqI (fun h48 => ?_) (fun h48 => fin fun _ => ?_)⟩
    · refine ⟨⟨by omega, by omega, by omega⟩, ?_⟩
      have es : sub (b :: l) (1 : Int) ((b :: l).length : Int) = l := by
        unfold sub
        simp
      rw [es]
      refine hX _ ⟨(allDg_cons.1 hz).2, ?_, by simp at hlz; omega⟩ (by simp)
      rw [← hv, dV_cons, show (0 * 10 + (b.toNat - 48)) = 0 from by omega]
    · simp only [List.head?_cons, ne_eq, Option.some.injEq]
      intro e; subst e; exact h48 rfl

/-- A number's digit at a place. -/
def dgt (v k : Nat) : Nat := v / 10 ^ k % 10
theorem dgt_le (v k : Nat) : dgt v k ≤ 9 := by unfold dgt; omega
theorem dgt_mod (v k : Nat) : v % 10 ^ (k + 1) = v % 10 ^ k + 10 ^ k * dgt v k := Nat.mod_pow_succ
theorem at_says (s : By) (k : Nat) (hd : allDg s) (hl : s.length ≤ 1000000) : offcutref01_at s (k : Int) (dgt (dV 0 s) k : Int) := by
  unfold offcutref01_at
  refine IfB.dec (fun h => ?_) (fun h => ?_)
  · have hk : k < s.length := by omega
    have hi : s.length - 1 - k < s.length := by omega
    have e1 : IntKind.i64.wrap ((IntKind.i64.wrap ((s.length : Int) - 1)) - k) = ((s.length - 1 - k : Nat) : Int) := by
      rw [wrap64' (n := (s.length : Int) - 1) (by omega) (by omega), wrap64' (by omega) (by omega)]; omega
    rw [e1]
    refine ⟨_, Idx.nat hi, ?_⟩
    have hb := hd _ (List.getElem_mem hi)
    unfold dg at hb
    rw [wrapu8 (by omega) (by omega), wrap64' (by omega) (by omega)]
    have es : s = s.take (s.length - 1 - k) ++ (s[s.length - 1 - k] :: s.drop (s.length - k)) := by
      have h1 := (List.take_append_drop (s.length - 1 - k) s).symm
      rw [List.drop_eq_getElem_cons hi, show s.length - 1 - k + 1 = s.length - k from by omega] at h1
      exact h1
    have hv : dV 0 s = (dV 0 (s.take (s.length - 1 - k)) * 10 + (s[s.length - 1 - k].toNat - 48)) * 10 ^ k + dV 0 (s.drop (s.length - k)) := by
      conv => lhs; rw [es]
      rw [dV_app, dV_cons, dV_acc, List.length_drop, show s.length - (s.length - k) = k from by omega]
    have hD := dV_lt (s.drop (s.length - k)) fun b hb => hd b (List.mem_of_mem_drop hb)
    rw [List.length_drop, show s.length - (s.length - k) = k from by omega] at hD
    have : dgt (dV 0 s) k = s[s.length - 1 - k].toNat - 48 := by
      unfold dgt
      rw [hv, divA _ _ _ hD]
      omega
    rw [this]; omega
  · have : dgt (dV 0 s) k = 0 := by
      unfold dgt
      have h1 := dV_lt s hd
      have h2 : 10 ^ s.length ≤ 10 ^ k := Nat.pow_le_pow_right (by omega) (by omega)
      rw [Nat.div_eq_of_lt (by omega)]
    rw [this]; rfl

theorem dV_dch (n : Nat) (h : n ≤ 9) (l : By) : dV 0 ([dch n] ++ l) = n * 10 ^ l.length + dV 0 l := by
  rw [dV_app0, dV_one, dch_nat h]; congr 2; omega
theorem tdivN (a b : Nat) : Int.tdiv (a : Int) (b : Int) = ((a / b : Nat) : Int) := rfl
theorem tmodN (a b : Nat) : Int.tmod (a : Int) (b : Int) = ((a % b : Nat) : Int) := rfl

theorem refAdd_says (a b : By) (ha : allDg a) (hb : allDg b) (hla : a.length ≤ 100000) (hlb : b.length ≤ 100000) : offcutref01_Add a b (decT (dV 0 a + dV 0 b)) := by
  unfold offcutref01_Add
  refine LoopP.intro (fun z : By × Int × Int => ∃ c k : Nat, z.2.1 = c ∧ z.2.2 = k ∧ k ≤ 100001 ∧ c ≤ 1 ∧ z.1.length = k ∧ allDg z.1 ∧ dV 0 z.1 + 10 ^ k * c = dV 0 a % 10 ^ k + dV 0 b % 10 ^ k) (fun z => 100002 - z.2.2.toNat) ⟨0, 0, rfl, rfl, by omega, by omega, rfl, by intro b hb; simp at hb, by simp [dV_nil, Nat.mod_one]⟩ ?_
  rintro X ⟨out, z1, z2⟩ ⟨c, k, h1, h2, hk, hc, hlo, hdo, hv⟩ hX
  simp only at h1 h2 hlo hdo hv
  subst h1 h2
  unfold offcutref01_Add_L1
  dsimp only
  have step : (k : Nat) ≤ 100000 → ∃ (x1 : Int), offcutref01_at a (k : Int) x1 ∧
    ∃ (x3 : Int), offcutref01_at b (k : Int) x3 ∧
    ∃ (x5 : List UInt8), offcutref01_sign (Int.tmod (IntKind.i64.wrap ((IntKind.i64.wrap (x1 + x3)) + (c : Int))) (10 : Int)) x5 ∧
    Fits (x5.length + out.length) 1 ∧
    X ((x5 ++ out), (IntKind.i64.wrap (Int.tdiv (IntKind.i64.wrap ((IntKind.i64.wrap (x1 + x3)) + (c : Int))) (10 : Int))), (IntKind.i64.wrap ((k : Int) + 1))) := fun hk' => by
    refine ⟨_, at_says a k ha (by omega), _, at_says b k hb (by omega), ?_⟩
    have da := dgt_le (dV 0 a) k
    have db := dgt_le (dV 0 b) k
    have ma := dgt_mod (dV 0 a) k
    have mb := dgt_mod (dV 0 b) k
    have e : IntKind.i64.wrap ((IntKind.i64.wrap ((dgt (dV 0 a) k : Int) + (dgt (dV 0 b) k : Int))) + (c : Int)) = ((dgt (dV 0 a) k + dgt (dV 0 b) k + c : Nat) : Int) := by
      rw [wrap64' (n := (dgt (dV 0 a) k : Int) + (dgt (dV 0 b) k : Int)) (by omega) (by omega), wrap64' (by omega) (by omega)]; omega
    rw [e, show (10 : Int) = ((10 : Nat) : Int) from rfl, tmodN, tdivN]
    refine ⟨_, sign_says _ (by omega), fits_of (by simp; omega) (by omega), ?_⟩
    rw [wrap64' (n := ((k : Int) + 1)) (by omega) (by omega), wrap64' (by omega) (by omega)]
    refine hX _ ⟨_, k + 1, rfl, by (try dsimp only) <;> omega, by omega, by omega, by simp; omega, allDg_app.2 ⟨allDg_one (dch_dg (by omega)), hdo⟩, ?_⟩ (by (try dsimp only) <;> omega)
    dsimp only
    rw [dV_dch _ (by omega), hlo, ma, mb, Nat.pow_succ]
    have e2 := Nat.div_add_mod (dgt (dV 0 a) k + dgt (dV 0 b) k + c) 10
    generalize (dgt (dV 0 a) k + dgt (dV 0 b) k + c) / 10 = q at *
    generalize (dgt (dV 0 a) k + dgt (dV 0 b) k + c) % 10 = r at *
    generalize dgt (dV 0 a) k = x at *
    generalize dgt (dV 0 b) k = y at *
    clear hX e
    grind
  refine IfB.dec (fun h => step (by omega)) (fun h => IfB.dec (fun h' => step (by omega)) (fun h' => ?_))
  have h1 := dV_lt a ha
  have h2 := dV_lt b hb
  have h3 : 10 ^ a.length ≤ 10 ^ (k - 1) := Nat.pow_le_pow_right (by omega) (by omega)
  have h4 : 10 ^ b.length ≤ 10 ^ (k - 1) := Nat.pow_le_pow_right (by omega) (by omega)
  have h5 : 10 ^ k = 10 ^ (k - 1) * 10 := by rw [← Nat.pow_succ]; congr 1; omega
  rw [Nat.mod_eq_of_lt (by omega), Nat.mod_eq_of_lt (by omega)] at hv
  have hc0 : c = 0 := by
    rcases Nat.eq_zero_or_pos c with h | h
    · exact h
    · have : c = 1 := by omega
      subst this; omega
  subst hc0
  refine ⟨_, cut_says out hdo (by omega), ?_⟩
  rw [show dV 0 out = dV 0 a + dV 0 b from by omega]

theorem refSub_says (a b : By) (ha : allDg a) (hb : allDg b) (hla : a.length ≤ 100000) (hlb : b.length ≤ 100000) (hle : dV 0 b ≤ dV 0 a) : offcutref01_Sub a b (decT (dV 0 a - dV 0 b)) := by
  unfold offcutref01_Sub
  refine LoopP.intro (fun z : By × Int × Int => ∃ c k : Nat, z.2.1 = c ∧ z.2.2 = k ∧ k ≤ a.length ∧ c ≤ 1 ∧ z.1.length = k ∧ allDg z.1 ∧ dV 0 z.1 + dV 0 b % 10 ^ k = dV 0 a % 10 ^ k + 10 ^ k * c) (fun z => a.length - z.2.2.toNat) ⟨0, 0, rfl, rfl, by omega, by omega, rfl, by intro b hb; simp at hb, by simp [dV_nil, Nat.mod_one]⟩ ?_
  rintro X ⟨out, z1, z2⟩ ⟨c, k, h1, h2, hk, hc, hlo, hdo, hv⟩ hX
  simp only at h1 h2 hlo hdo hv
  subst h1 h2
  unfold offcutref01_Sub_L1
  dsimp only
  refine IfB.dec (fun h => ?_) (fun h => ?_)
  · refine ⟨_, at_says a k ha (by omega), _, at_says b k hb (by omega), ?_⟩
    have da := dgt_le (dV 0 a) k
    have db := dgt_le (dV 0 b) k
    have ma := dgt_mod (dV 0 a) k
    have mb := dgt_mod (dV 0 b) k
    have e : IntKind.i64.wrap ((IntKind.i64.wrap ((IntKind.i64.wrap ((dgt (dV 0 a) k : Int) - (dgt (dV 0 b) k : Int))) - (c : Int))) + 10) = ((dgt (dV 0 a) k + 10 - dgt (dV 0 b) k - c : Nat) : Int) := by
      rw [wrap64' (n := (dgt (dV 0 a) k : Int) - (dgt (dV 0 b) k : Int)) (by omega) (by omega), wrap64' (n := (dgt (dV 0 a) k : Int) - (dgt (dV 0 b) k : Int) - c) (by omega) (by omega), wrap64' (by omega) (by omega)]; omega
    rw [e, show (10 : Int) = ((10 : Nat) : Int) from rfl, tmodN, tdivN]
    refine ⟨_, sign_says _ (by omega), fits_of (by simp; omega) (by omega), ?_⟩
    have e3 : IntKind.i64.wrap (1 - (IntKind.i64.wrap (((dgt (dV 0 a) k + 10 - dgt (dV 0 b) k - c) / 10 : Nat) : Int))) = ((1 - (dgt (dV 0 a) k + 10 - dgt (dV 0 b) k - c) / 10 : Nat) : Int) := by
      rw [wrap64' (n := ((_ : Nat) : Int)) (by omega) (by omega), wrap64' (by omega) (by omega)]; omega
    rw [e3, wrap64' (n := ((k : Int) + 1)) (by omega) (by omega)]
    refine hX _ ⟨_, k + 1, rfl, by (try dsimp only) <;> omega, by omega, by omega, by simp; omega, allDg_app.2 ⟨allDg_one (dch_dg (by omega)), hdo⟩, ?_⟩ (by (try dsimp only) <;> omega)
    dsimp only
    rw [dV_dch _ (by omega), hlo, ma, mb, Nat.pow_succ]
    have e2 : (dgt (dV 0 a) k + 10 - dgt (dV 0 b) k - c) % 10 + dgt (dV 0 b) k + c = dgt (dV 0 a) k + 10 * (1 - (dgt (dV 0 a) k + 10 - dgt (dV 0 b) k - c) / 10) := by omega
    generalize 1 - (dgt (dV 0 a) k + 10 - dgt (dV 0 b) k - c) / 10 = q at *
    generalize (dgt (dV 0 a) k + 10 - dgt (dV 0 b) k - c) % 10 = r at *
    generalize dgt (dV 0 a) k = x at *
    generalize dgt (dV 0 b) k = y at *
    clear hX e e3
    grind
  · have hkl : k = a.length := by omega
    subst hkl
    have h1 := dV_lt a ha
    have h3 := dV_lt out hdo
    rw [hlo] at h3
    rw [Nat.mod_eq_of_lt (by omega), Nat.mod_eq_of_lt (by omega)] at hv
    have hc0 : c = 0 := by
      rcases Nat.eq_zero_or_pos c with h | h
      · exact h
      · have : c = 1 := by omega
        subst this; omega
    subst hc0
    refine ⟨_, cut_says out hdo (by omega), ?_⟩
    rw [show dV 0 out = dV 0 a - dV 0 b from by omega]

end Go.Abs
