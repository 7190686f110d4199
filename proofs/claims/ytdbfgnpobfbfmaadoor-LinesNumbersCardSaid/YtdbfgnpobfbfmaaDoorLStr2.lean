/- Numbers as decimal texts, plain: products, quotients, what is common; fractions of texts. -/
import Derived.Test.YtdbfgnpobfbfmaaDoorLStr
namespace Go.Abs
open Go
set_option linter.unusedVariables false
set_option linter.unusedSimpArgs false
set_option linter.unnecessarySimpa false

/-- Numbers at places, added up. -/
def lval : List Int → Nat
  | [] => 0
  | x :: l => x.toNat + 10 * lval l
theorem lval_nil : lval [] = 0 := by rfl
theorem lval_cons (x : Int) (l : List Int) : lval (x :: l) = x.toNat + 10 * lval l := by rfl
theorem lval_rep : ∀ n : Nat, lval (List.replicate n 0) = 0
  | 0 => rfl
  | n + 1 => by rw [List.replicate_succ, lval_cons, lval_rep n]; rfl
theorem lval_set : ∀ {l : List Int} {k : Nat} (h : k < l.length) (y : Int), lval (l.set k y) + 10 ^ k * l[k].toNat = lval l + 10 ^ k * y.toNat
  | x :: l, 0, h, y => by simp [lval_cons]; omega
  | x :: l, k + 1, h, y => by
    have := lval_set (l := l) (k := k) (by simpa using h) y
    simp only [List.set_cons_succ, lval_cons, List.getElem_cons_succ, Nat.pow_succ]
    grind

/-- At most so much at each place. -/
def Bd (l : List Int) (B : Nat → Nat) : Prop := ∀ (j : Nat) (h : j < l.length), 0 ≤ l[j] ∧ l[j] ≤ B j

theorem refMul_says (a b : By) (ha : allDg a) (hb : allDg b) (hla : a.length ≤ 100000) (hlb : b.length ≤ 100000) : offcutref01_Mul a b (decT (dV 0 a * dV 0 b)) := by
  unfold offcutref01_Mul
  have hn : IntKind.i64.wrap ((IntKind.i64.wrap ((a.length : Int) + (b.length : Int))) + 1) = ((a.length + b.length + 1 : Nat) : Int) := by
    rw [wrap64' (n := (a.length : Int) + (b.length : Int)) (by omega) (by omega), wrap64' (by omega) (by omega)]; omega
  rw [hn, Int.toNat_natCast]
  refine ⟨⟨by omega, fits_of (by omega) (by omega), fits_of (by omega) (by omega)⟩, ?_⟩
  generalize hm : b.length = m at *
  refine LoopP.intro (fun z : Int × List Int => ∃ i : Nat, z.1 = i ∧ i ≤ a.length ∧ z.2.length = a.length + m + 1 ∧ Bd z.2 (fun _ => 81 * i) ∧ lval z.2 = dV 0 a % 10 ^ i * dV 0 b) (fun z => a.length - z.1.toNat) ⟨0, rfl, by omega, by simp, fun j h => by simp, by simp [lval_rep, Nat.mod_one]⟩ ?_
  rintro X ⟨z1, l⟩ ⟨i, h1, hi, hll, hbd, hv⟩ hX
  simp only at h1 hll hbd hv
  subst h1
  unfold offcutref01_Mul_L1
  dsimp only
  refine IfB.dec (fun hlt => ?_) (fun hge => ?_)
  · have hia : i < a.length := by omega
    refine LoopP.intro (fun z : Int × List Int => ∃ k : Nat, z.1 = k ∧ k ≤ m ∧ z.2.length = a.length + m + 1 ∧ Bd z.2 (fun j => if j < i + k then 81 * (i + 1) else 81 * i) ∧ lval z.2 = dV 0 a % 10 ^ i * dV 0 b + 10 ^ i * dgt (dV 0 a) i * (dV 0 b % 10 ^ k)) (fun z => m - z.1.toNat) ⟨0, rfl, by omega, hll, fun j h => by
      have := hbd j h
      dsimp only at this ⊢
      split <;> omega, by simp [hv, Nat.mod_one]⟩ ?_
    rintro X2 ⟨z1, l2⟩ ⟨k, h1, hk, hl2, hb2, hv2⟩ hX2
    simp only at h1 hl2 hb2 hv2
    subst h1
    unfold offcutref01_Mul_L2
    dsimp only
    rw [hm]
    refine IfB.dec (fun hlt2 => ?_) (fun hge2 => ?_)
    · have hik : i + k < l2.length := by omega
      have ei : IntKind.i64.wrap ((i : Int) + (k : Int)) = ((i + k : Nat) : Int) := by rw [wrap64' (by omega) (by omega)]; omega
      rw [ei]
      have da := dgt_le (dV 0 a) i
      have db := dgt_le (dV 0 b) k
      have hbx := hb2 (i + k) hik
      dsimp only at hbx
      rw [if_neg (by omega)] at hbx
      have hp : dgt (dV 0 a) i * dgt (dV 0 b) k ≤ 9 * 9 := Nat.mul_le_mul da db
      refine ⟨_, Idx.nat hik, _, at_says a i ha (by omega), _, at_says b k hb (by omega), _, Idx.nat hik, ?_⟩
      have exy : ((dgt (dV 0 a) i : Int) * (dgt (dV 0 b) k : Int)) = ((dgt (dV 0 a) i * dgt (dV 0 b) k : Nat) : Int) := by rw [Int.natCast_mul]
      rw [exy, wrap64' (n := ((dgt (dV 0 a) i * dgt (dV 0 b) k : Nat) : Int)) (by omega) (by omega), wrap64' (n := l2[i + k] + _) (by omega) (by omega), wrap64' (by omega) (by omega), Int.toNat_natCast]
      have hs := lval_set hik (l2[i + k] + ((dgt (dV 0 a) i * dgt (dV 0 b) k : Nat) : Int))
      have hto : (l2[i + k] + ((dgt (dV 0 a) i * dgt (dV 0 b) k : Nat) : Int)).toNat = l2[i + k].toNat + dgt (dV 0 a) i * dgt (dV 0 b) k := by omega
      refine hX2 _ ⟨k + 1, by (try dsimp only) <;> omega, by omega, by simp [hl2], fun j h => ?_, ?_⟩ (by (try dsimp only) <;> omega)
      · dsimp only
        rw [List.getElem_set]
        by_cases e : i + k = j
        · subst e
          rw [if_pos rfl, if_pos (by omega)]; omega
        · rw [if_neg e]
          have := hb2 j (by simpa using h)
          dsimp only at this
          split at this
          · rw [if_pos (by omega)]; exact this
          · rw [if_neg (by omega)]; exact this
      · dsimp only
        rw [hto] at hs
        rw [dgt_mod]
        have ep : 10 ^ (i + k) = 10 ^ i * 10 ^ k := Nat.pow_add _ _ _
        rw [ep] at hs
        generalize lval (l2.set (i + k) _) = v2 at *
        generalize lval l2 = v1 at *
        generalize dgt (dV 0 a) i = x at *
        generalize dgt (dV 0 b) k = y at *
        generalize l2[i + k].toNat = o at *
        clear hX hX2 exy hto
        grind
    · have : k = m := by omega
      subst this
      rw [wrap64' (by omega) (by omega)]
      refine hX _ ⟨i + 1, by (try dsimp only) <;> omega, by omega, hl2, fun j h => ?_, ?_⟩ (by (try dsimp only) <;> omega)
      · have := hb2 j h
        dsimp only at this ⊢
        split at this <;> omega
      · dsimp only
        have h2 := dV_lt b hb
        rw [hv2, Nat.mod_eq_of_lt (a := dV 0 b) (by rw [← hm]; exact h2), dgt_mod]
        grind
  · have hia : i = a.length := by omega
    subst hia
    have h1 := dV_lt a ha
    have h2 := dV_lt b hb
    rw [Nat.mod_eq_of_lt h1] at hv
    refine LoopP.intro (fun z : By × Int × Int => ∃ c k : Nat, z.2.1 = c ∧ z.2.2 = k ∧ k ≤ l.length ∧ c ≤ 81 * a.length ∧ z.1.length = k ∧ allDg z.1 ∧ dV 0 z.1 + 10 ^ k * c + 10 ^ k * lval (l.drop k) = dV 0 a * dV 0 b) (fun z => l.length - z.2.2.toNat) ⟨0, 0, rfl, rfl, by omega, by omega, rfl, by intro b hb; simp at hb, by simp [dV_nil, hv]⟩ ?_
    rintro X3 ⟨out, z1, z2⟩ ⟨c, k, h1', h2', hk, hc, hlo, hdo, hv3⟩ hX3
    simp only at h1' h2' hlo hdo hv3
    subst h1' h2'
    unfold offcutref01_Mul_L3
    dsimp only
    refine IfB.dec (fun hlt3 => ?_) (fun hge3 => ?_)
    · have hkl : k < l.length := by omega
      have hbx := hbd k hkl
      dsimp only at hbx
      refine ⟨_, Idx.nat hkl, ?_⟩
      have e : IntKind.i64.wrap (l[k] + (c : Int)) = ((l[k].toNat + c : Nat) : Int) := by rw [wrap64' (by omega) (by omega)]; omega
      rw [e, show (10 : Int) = ((10 : Nat) : Int) from rfl, tmodN, tdivN]
      refine ⟨_, sign_says _ (by omega), fits_of (by simp; omega) (by omega), ?_⟩
      rw [wrap64' (n := ((_ : Nat) : Int)) (by omega) (by omega), wrap64' (by omega) (by omega)]
      refine hX3 _ ⟨_, k + 1, rfl, by (try dsimp only) <;> omega, by omega, by omega, by simp; omega, allDg_app.2 ⟨allDg_one (dch_dg (by omega)), hdo⟩, ?_⟩ (by (try dsimp only) <;> omega)
      dsimp only
      rw [List.drop_eq_getElem_cons hkl, lval_cons] at hv3
      rw [dV_dch _ (by omega), hlo, Nat.pow_succ]
      have e2 := Nat.div_add_mod (l[k].toNat + c) 10
      generalize (l[k].toNat + c) / 10 = q at *
      generalize (l[k].toNat + c) % 10 = r at *
      generalize l[k].toNat = x at *
      generalize lval (l.drop (k + 1)) = D at *
      clear hX hX3 e
      grind
    · have hkl : k = l.length := by omega
      subst hkl
      rw [List.drop_length, lval_nil] at hv3
      have h3 : dV 0 a * dV 0 b < 10 ^ out.length := by
        have h4 : dV 0 a * dV 0 b ≤ dV 0 a * 10 ^ b.length := Nat.mul_le_mul_left _ (Nat.le_of_lt h2)
        have h5 : dV 0 a * 10 ^ b.length < 10 ^ a.length * 10 ^ b.length := Nat.mul_lt_mul_of_pos_right h1 (Nat.pow_pos (by omega))
        have h6 : 10 ^ a.length * 10 ^ b.length = 10 ^ (a.length + b.length) := (Nat.pow_add _ _ _).symm
        have h7 : 10 ^ (a.length + b.length) ≤ 10 ^ out.length := Nat.pow_le_pow_right (by omega) (by omega)
        omega
      have hc0 : c = 0 := by
        rcases Nat.eq_zero_or_pos c with h | h
        · exact h
        · exfalso
          have : 10 ^ l.length * 1 ≤ 10 ^ l.length * c := Nat.mul_le_mul_left _ h
          rw [hlo] at h3
          omega
      subst hc0
      refine ⟨_, cut_says out hdo (by omega), ?_⟩
      rw [show dV 0 out = dV 0 a * dV 0 b from by omega]

theorem w32_text : decT 4294967296 = [52, 50, 57, 52, 57, 54, 55, 50, 57, 54] := by
  have h : ([52, 50, 57, 52, 57, 54, 55, 50, 57, 54] : By) = decT (dV 0 [52, 50, 57, 52, 57, 54, 55, 50, 57, 54]) := decT_of (by decide) (by simp) (by simp)
  rw [h]; rfl

theorem w10 (n : Nat) : 4294967296 ^ n ≤ 10 ^ (10 * n) := by
  rw [Nat.pow_mul]; exact Nat.pow_le_pow_left (by omega) n

theorem refOf_says (p : List Int) (hp : WS p) (hl : p.length ≤ 5000) : offcutref01_Of p (decT (val p)) := by
  unfold offcutref01_Of
  have tl : ∀ k, (decT (val (p.drop k))).length ≤ 50001 := fun k => by
    have h1 := val_lt (WS_drop hp k)
    rw [List.length_drop] at h1
    have h2 := w10 (p.length - k)
    have h3 : 10 ^ (10 * (p.length - k)) ≤ 10 ^ (10 * (p.length - k) + 1) := Nat.pow_le_pow_right (by omega) (by omega)
    have := decT_len (10 * (p.length - k)) (val (p.drop k)) (by omega)
    omega
  refine LoopP.intro (fun z : By × Int => ∃ j : Nat, j ≤ p.length ∧ z.2 = (j : Int) - 1 ∧ z.1 = decT (val (p.drop j))) (fun z => (z.2 + 1).toNat) ⟨p.length, by omega, by rw [wrap64' (by omega) (by omega)], by rw [List.drop_length, val_nil, decT_lt (by omega)]; rfl⟩ ?_
  rintro X ⟨z1, z2⟩ ⟨j, hj, h2, h1⟩ hX
  simp only at h1 h2
  subst h1 h2
  unfold offcutref01_Of_L1
  dsimp only
  refine IfB.dec (fun h => ?_) (fun h => ?_)
  · obtain ⟨k, rfl⟩ : ∃ k, j = k + 1 := ⟨j - 1, by omega⟩
    have ek : ((k + 1 : Nat) : Int) - 1 = (k : Int) := by omega
    simp only [ek]
    have hkp : k < p.length := by omega
    have xk := WS_get hp hkp
    have hmul := refMul_says (decT (val (p.drop (k + 1)))) (decT 4294967296) (decT_dg _) (decT_dg _) (by have := tl (k + 1); omega) (by rw [w32_text]; simp)
    rw [dV_decT, dV_decT, w32_text] at hmul
    refine ⟨_, hmul, _, Idx.nat hkp, ?_⟩
    have hvd : val (p.drop k) = val (p.drop (k + 1)) * 4294967296 + p[k].toNat := by
      rw [List.drop_eq_getElem_cons hkp, val_cons]; omega
    refine LoopP.intro (fun z : Int × By => ∃ n : Nat, z.1 = n ∧ n ≤ p[k].toNat ∧ allDg z.2 ∧ (z.2.length ≤ 10 ∧ n < 10 ^ (10 - z.2.length)) ∧ n * 10 ^ z.2.length + dV 0 z.2 = p[k].toNat) (fun z => z.1.toNat) ⟨p[k].toNat, by dsimp only; omega, by omega, by intro b hb; simp at hb, by simp; omega, by simp [dV_nil]⟩ ?_
    rintro X2 ⟨z1, s⟩ ⟨n, h1, hn, hds, hls, hv⟩ hX2
    simp only at h1 hds hls hv
    subst h1
    obtain ⟨hls, hn10⟩ := hls
    unfold offcutref01_Of_L2
    dsimp only
    refine IfB.dec (fun h0 => ?_) (fun h0 => ?_)
    · rw [show (10 : Int) = ((10 : Nat) : Int) from rfl, tmodN, tdivN, wrap64' (n := ((n % 10 : Nat) : Int)) (by omega) (by omega), wrapu32 (by omega) (by omega)]
      refine ⟨_, sign_says _ (by omega), ?_, hX2 _ ⟨n / 10, rfl, by omega, allDg_app.2 ⟨allDg_one (dch_dg (by omega)), hds⟩, ?_, ?_⟩ (by dsimp only; omega)⟩
      · unfold Fits; simp; omega
      · dsimp only
        have hl10 : s.length < 10 := by
          rcases Nat.lt_or_ge s.length 10 with h | h
          · exact h
          · rw [show 10 - s.length = 0 from by omega] at hn10; simp at hn10; omega
        rw [List.length_append, show [dch (n % 10)].length = 1 from rfl]
        refine ⟨by omega, ?_⟩
        rw [show 10 - s.length = (10 - (1 + s.length)) + 1 from by omega, Nat.pow_succ] at hn10
        omega
      · dsimp only
        rw [dV_dch _ (by omega), List.length_append, show [dch (n % 10)].length + s.length = s.length + 1 from by simp; omega, Nat.pow_succ]
        have e2 := Nat.div_add_mod n 10
        generalize n / 10 = q at *
        generalize n % 10 = r at *
        clear hX hX2
        grind
    · have hn0 : n = 0 := by omega
      subst hn0
      have hxv : dV 0 s = p[k].toNat := by omega
      have hcut := cut_says s hds (by omega)
      rw [hxv] at hcut
      have l1 : (decT (val (p.drop (k + 1)) * 4294967296)).length ≤ 50001 := by
        have h1 := val_lt (WS_drop hp k)
        rw [List.length_drop] at h1
        have h2 := w10 (p.length - k)
        have h3 : 10 ^ (10 * (p.length - k)) ≤ 10 ^ (10 * (p.length - k) + 1) := Nat.pow_le_pow_right (by omega) (by omega)
        have := decT_len (10 * (p.length - k)) (val (p.drop (k + 1)) * 4294967296) (by omega)
        omega
      have l2 : (decT p[k].toNat).length ≤ 10 := decT_len 9 _ (by simp; omega)
      have hadd := refAdd_says (decT (val (p.drop (k + 1)) * 4294967296)) (decT p[k].toNat) (decT_dg _) (decT_dg _) (by omega) (by omega)
      rw [dV_decT, dV_decT, ← hvd] at hadd
      refine ⟨_, hcut, _, hadd, ?_⟩
      rw [wrap64' (by omega) (by omega)]
      exact hX _ ⟨k, by omega, rfl, rfl⟩ (by (try dsimp only) <;> omega)
  · have : j = 0 := by omega
    subst this
    rfl


/-! ### which is less -/
theorem bytesLess_dV : ∀ {a b : By}, allDg a → allDg b → a.length = b.length → Op.bytesLess a b = decide (dV 0 a < dV 0 b)
  | [], [], _, _, _ => by simp [Op.bytesLess, dV_nil]
  | x :: a, y :: b, ha, hb, hl => by
    have ha := allDg_cons.1 ha
    have hb := allDg_cons.1 hb
    have hl : a.length = b.length := by simpa using hl
    have ih := bytesLess_dV ha.2 hb.2 hl
    have h1 := dV_lt a ha.2
    have h2 := dV_lt b hb.2
    rw [hl] at h1
    have h3 := ha.1; have h4 := hb.1
    unfold dg at h3 h4
    unfold Op.bytesLess
    rw [ih, dV_cons, dV_cons, dV_acc a (0 * 10 + (x.toNat - 48)), dV_acc b (0 * 10 + (y.toNat - 48)), hl]
    have exy : (x < y) ↔ x.toNat < y.toNat := UInt8.lt_iff_toNat_lt
    by_cases hxy : x = y
    · subst hxy
      have : ¬ (x < x) := by rw [exy]; omega
      simp [this]
    · have hne : x.toNat ≠ y.toNat := fun e => hxy (UInt8.toNat_inj.1 e)
      have hbe : (x == y) = false := by simpa using hxy
      rw [hbe]
      simp only [Bool.false_and, Bool.or_false]
      by_cases hlt : x.toNat < y.toNat
      · have : (0 * 10 + (x.toNat - 48) + 1) * 10 ^ b.length ≤ (0 * 10 + (y.toNat - 48)) * 10 ^ b.length := Nat.mul_le_mul_right _ (by omega)
        rw [Nat.add_mul] at this
        have h5 : (0 * 10 + (x.toNat - 48)) * 10 ^ b.length + dV 0 a < (0 * 10 + (y.toNat - 48)) * 10 ^ b.length + dV 0 b := by omega
        simp only [exy, hlt, h5]
      · have : (0 * 10 + (y.toNat - 48) + 1) * 10 ^ b.length ≤ (0 * 10 + (x.toNat - 48)) * 10 ^ b.length := Nat.mul_le_mul_right _ (by omega)
        rw [Nat.add_mul] at this
        have h5 : ¬ (0 * 10 + (x.toNat - 48)) * 10 ^ b.length + dV 0 a < (0 * 10 + (y.toNat - 48)) * 10 ^ b.length + dV 0 b := by omega
        simp only [exy, hlt, h5]

theorem decT_len_lt {m n : Nat} (h : (decT m).length < (decT n).length) : m < n := by
  rcases Nat.lt_or_ge m n with h' | h'
  · exact h'
  · exfalso
    have hm := dV_lt _ (decT_dg m)
    rw [dV_decT] at hm
    have hp := decT_pos m
    have := decT_len ((decT m).length - 1) n (by rw [show (decT m).length - 1 + 1 = (decT m).length from by omega]; omega)
    omega

theorem refLess_says (m n : Nat) : offcutref01_Less (decT m) (decT n) (decide (m < n)) := by
  unfold offcutref01_Less
  refine IfB.neI (fun h => IfB.dec (fun hl => ?_) (fun hl => ?_)) (fun h => ?_)
  · have := decT_len_lt (m := m) (n := n) (by omega)
    simpa using this
  · have := decT_len_lt (m := n) (n := m) (by omega)
    simp; omega
  · rw [bytesLess_dV (decT_dg m) (decT_dg n) (by omega), dV_decT, dV_decT]
    exact IfB.dec (fun h => by simpa using h) (fun h => by simpa using h)

/-! ### quotients -/
theorem refDivMod_says (a : By) (b : Nat) (ha : allDg a) (hla : a.length ≤ 90000) (hlb : (decT b).length ≤ 90000) (hb : 0 < b) : offcutref01_DivMod a (decT b) (decT (dV 0 a / b), decT (dV 0 a % b)) := by
  unfold offcutref01_DivMod
  refine LoopP.intro (fun z : By × By × Int => ∃ k R : Nat, z.2.2 = k ∧ k ≤ a.length ∧ z.2.1 = decT R ∧ R < b ∧ z.1.length = k ∧ allDg z.1 ∧ dV 0 z.1 * b + R = dV 0 (a.take k)) (fun z => a.length - z.2.2.toNat) ⟨0, 0, rfl, by omega, by rw [decT_lt (by omega)]; rfl, hb, rfl, by intro b hb; simp at hb, by simp [dV_nil]⟩ ?_
  rintro X ⟨out, z1, z2⟩ ⟨k, R, h2, hk, h1, hR, hlo, hdo, hv⟩ hX
  simp only at h1 h2 hlo hdo hv
  subst h1 h2
  unfold offcutref01_DivMod_L1
  dsimp only
  refine IfB.dec (fun h => ?_) (fun h => ?_)
  · have hka : k < a.length := by omega
    have hdk := ha _ (List.getElem_mem hka)
    have hdk' := hdk
    unfold dg at hdk'
    rw [wrap64' (by omega) (by omega)]
    have es : sub a (k : Int) ((k : Int) + 1) = [a[k]] := by
      unfold sub
      rw [show ((k : Int) + 1).toNat - (k : Int).toNat = 1 from by omega, Int.toNat_natCast, List.drop_eq_getElem_cons hka]; rfl
    rw [es]
    have hRl : (decT R).length ≤ 90000 := by
      have hb' := dV_lt _ (decT_dg b)
      rw [dV_decT] at hb'
      have hp := decT_pos b
      have := decT_len ((decT b).length - 1) R (by rw [show (decT b).length - 1 + 1 = (decT b).length from by omega]; omega)
      omega
    have hS : dV 0 (decT R ++ [a[k]]) = R * 10 + (a[k].toNat - 48) := by rw [dV_app0, dV_decT, dV_one]; simp
    have hcut := cut_says (decT R ++ [a[k]]) (allDg_app.2 ⟨decT_dg R, allDg_one hdk⟩) (by simp; omega)
    rw [hS] at hcut
    refine ⟨⟨by omega, by omega, by omega⟩, fits_of (by simp; omega) (by omega), _, hcut, ?_⟩
    have hSb : R * 10 + (a[k].toNat - 48) < 10 * b := by omega
    have htk : dV 0 (a.take (k + 1)) = dV 0 (a.take k) * 10 + (a[k].toNat - 48) := by
      rw [List.take_add_one, List.getElem?_eq_getElem hka]
      show dV 0 (a.take k ++ [a[k]]) = _
      rw [dV_app0, dV_one]; simp
    have hSl : (decT (R * 10 + (a[k].toNat - 48))).length ≤ 90001 := by
      have hb' := dV_lt _ (decT_dg b)
      rw [dV_decT] at hb'
      have := decT_len (decT b).length (R * 10 + (a[k].toNat - 48)) (by rw [Nat.pow_succ]; omega)
      omega
    generalize hSd : R * 10 + (a[k].toNat - 48) = S at *
    refine LoopP.intro (fun z : By × Int => ∃ n : Nat, z.2 = n ∧ n * b ≤ S ∧ z.1 = decT (S - n * b)) (fun z => 10 - z.2.toNat) ⟨0, rfl, by omega, by simp⟩ ?_
    rintro X2 ⟨z1, z2⟩ ⟨n, h2, hnb, h1⟩ hX2
    simp only at h1 h2
    subst h1 h2
    have hn9 : n ≤ 9 := by
      rcases Nat.lt_or_ge n 10 with h | h
      · omega
      · have : 10 * b ≤ n * b := Nat.mul_le_mul_right _ h
        omega
    unfold offcutref01_DivMod_L2
    dsimp only
    refine ⟨_, refLess_says _ _, IfB.dec (fun hlt => ?_) (fun hge => ?_)⟩
    · refine ⟨_, sign_says n hn9, fits_of (by simp; omega) (by omega), ?_⟩
      rw [wrap64' (by omega) (by omega)]
      refine hX _ ⟨k + 1, S - n * b, by (try dsimp only) <;> omega, by omega, rfl, hlt, by simp; omega, allDg_app.2 ⟨hdo, allDg_one (dch_dg hn9)⟩, ?_⟩ (by (try dsimp only) <;> omega)
      dsimp only
      rw [htk, dV_app0, dV_one, dch_nat hn9]
      simp only [List.length_singleton, Nat.pow_one]
      have e9 : 48 + n - 48 = n := by omega
      rw [e9, Nat.add_mul]
      have e10 : dV 0 out * 10 * b = dV 0 out * b * 10 := by grind
      omega
    · have hle : b ≤ S - n * b := by omega
      have hsub := refSub_says (decT (S - n * b)) (decT b) (decT_dg _) (decT_dg _) (by
        have hS' := dV_lt _ (decT_dg S)
        rw [dV_decT] at hS'
        have hp := decT_pos S
        have := decT_len ((decT S).length - 1) (S - n * b) (by rw [show (decT S).length - 1 + 1 = (decT S).length from by omega]; omega)
        omega) (by omega) (by rw [dV_decT, dV_decT]; exact hle)
      rw [dV_decT, dV_decT] at hsub
      refine ⟨_, hsub, ?_⟩
      rw [wrap64' (by omega) (by omega)]
      exact hX2 _ ⟨n + 1, by (try dsimp only) <;> omega, by rw [Nat.add_mul]; omega, by dsimp only; congr 1; rw [Nat.add_mul]; omega⟩ (by (try dsimp only) <;> omega)
  · have hka : k = a.length := by omega
    subst hka
    rw [List.take_length] at hv
    refine ⟨_, cut_says out hdo (by omega), ?_⟩
    have hdiv : dV 0 a / b = dV 0 out := by
      apply Nat.div_eq_of_lt_le
      · omega
      · rw [Nat.add_mul]; omega
    have hmod : dV 0 a % b = R := by
      have := Nat.div_add_mod (dV 0 a) b
      rw [hdiv, Nat.mul_comm] at this
      omega
    rw [hdiv, hmod]

theorem decT_zero : decT 0 = [48] := by rw [decT_lt (by omega)]; rfl
theorem decT_eq0 (n : Nat) : (decT n == ([48] : By)) = decide (n = 0) := by
  by_cases h : n = 0
  · subst h; rw [decT_zero]; rfl
  · simp only [h, decide_false, beq_eq_false_iff_ne, ne_eq]
    rw [← decT_zero]
    exact fun e => h (decT_inj e)
theorem decT_mono {m n : Nat} (h : m ≤ n) : (decT m).length ≤ (decT n).length := by
  have h1 := dV_lt _ (decT_dg n)
  rw [dV_decT] at h1
  have hp := decT_pos n
  have := decT_len ((decT n).length - 1) m (by rw [show (decT n).length - 1 + 1 = (decT n).length from by omega]; omega)
  omega

theorem refGcd_says (a b : Nat) (hla : (decT a).length ≤ 90000) (hlb : (decT b).length ≤ 90000) : offcutref01_Gcd (decT a) (decT b) (decT (Nat.gcd a b)) := by
  unfold offcutref01_Gcd
  refine LoopP.intro (fun z : By × By => ∃ x y : Nat, z.1 = decT x ∧ z.2 = decT y ∧ Nat.gcd x y = Nat.gcd a b ∧ (decT x).length ≤ 90000 ∧ (decT y).length ≤ 90000) (fun z => dV 0 z.2) ⟨a, b, rfl, rfl, rfl, by omega, by omega⟩ ?_
  rintro X ⟨z1, z2⟩ ⟨x, y, h1, h2, hg, hx, hy⟩ hX
  simp only at h1 h2
  subst h1 h2
  unfold offcutref01_Gcd_L1
  dsimp only
  rw [decT_eq0]
  refine IfB.intro (fun h => ?_) (fun h => ?_)
  · have hy0 : y ≠ 0 := by simpa using h
    have hd := refDivMod_says (decT x) y (decT_dg x) hx hy (by omega)
    rw [dV_decT] at hd
    have hlt := Nat.mod_lt x (show y > 0 from by omega)
    refine ⟨_, _, hd, hX _ ⟨y, x % y, rfl, rfl, ?_, hy, ?_⟩ ?_⟩
    · rw [← hg, Nat.gcd_comm y, ← Nat.gcd_rec, Nat.gcd_comm]
    · have := decT_mono (show x % y ≤ y from by omega); omega
    · dsimp only; rw [dV_decT, dV_decT]; exact hlt
  · have hy0 : y = 0 := by simpa using h
    subst hy0
    rw [← hg, Nat.gcd_zero_right]

/-- A whole number's text. -/
def madeT (p : Bool) (n : Nat) : By := if p && decide (n ≠ 0) then 45 :: decT n else decT n
theorem refMade_says (p : Bool) (n : Nat) (hl : (decT n).length ≤ 90000) : offcutref02_Made p (decT n) (madeT p n) := by
  unfold offcutref02_Made madeT
  rw [decT_eq0]
  cases p with
  | false => exact IfB_false.2 (by simp)
  | true =>
    refine IfB_true.2 (IfB.intro (fun h => ⟨fits_of (by simp; omega) (by omega), ?_⟩) (fun h => ?_))
    · have : n ≠ 0 := by simpa using h
      simp [this]
    · have : n = 0 := by simpa using h
      simp [this]
theorem refBelow_says (p : Bool) (n : Nat) : offcutref02_Below (madeT p n) (p && decide (n ≠ 0)) := by
  unfold offcutref02_Below madeT
  cases hc : (p && decide (n ≠ 0)) with
  | true => exact ⟨45, ⟨by omega, rfl⟩, IfB_true.2 rfl⟩
  | false =>
    simp only [Bool.false_eq_true, if_false]
    have hd := decT_dg n
    have hne := decT_ne n
    cases hs : decT n with
    | nil => exact absurd hs hne
    | cons b l =>
      have hb := hd b (by rw [hs]; simp)
      unfold dg at hb
      refine ⟨b, ⟨by omega, rfl⟩, IfB.eqI (fun h => by omega) (fun _ => by simp)⟩

theorem refLow_says (p : Bool) (n d : Nat) (hd : 0 < d) (hn : (decT n).length ≤ 80000) (hdl : (decT d).length ≤ 80000) : ∃ a b, offcutref03_Low (madeT p n) (decT d) (a, b) := by
  have hg := refGcd_says n d (by omega) (by omega)
  have hg0 : 0 < Nat.gcd n d := Nat.gcd_pos_of_pos_right _ hd
  have hgl : (decT (Nat.gcd n d)).length ≤ 80000 := Nat.le_trans (decT_mono (Nat.gcd_le_right n hd)) hdl
  have h1 := refDivMod_says (decT n) (Nat.gcd n d) (decT_dg n) (by omega) (by omega) hg0
  have h2 := refDivMod_says (decT d) (Nat.gcd n d) (decT_dg d) (by omega) (by omega) hg0
  rw [dV_decT] at h1 h2
  have hql : (decT (n / Nat.gcd n d)).length ≤ 90000 := by have := decT_mono (Nat.div_le_self n (Nat.gcd n d)); omega
  have hb := refBelow_says p n
  unfold offcutref03_Low
  cases hc : (p && decide (n ≠ 0)) with
  | true =>
    rw [hc] at hb
    have em : madeT p n = 45 :: decT n := by unfold madeT; rw [hc]; rfl
    have es : sub (madeT p n) (1 : Int) ((madeT p n).length : Int) = decT n := by rw [em]; unfold sub; simp
    rw [es]
    refine ⟨_, _, true, hb, IfB_true.2 ⟨⟨by omega, by rw [em]; simp; omega, by omega⟩, _, hg, _, _, h1, _, _, h2, true, hb, IfB_true.2 ⟨_, refMade_says true _ hql, rfl⟩⟩⟩
  | false =>
    rw [hc] at hb
    have em : madeT p n = decT n := by unfold madeT; rw [hc]; simp
    rw [em] at hb ⊢
    exact ⟨_, _, false, hb, IfB_false.2 ⟨_, hg, _, _, h1, _, _, h2, false, hb, IfB_false.2 ⟨_, refMade_says false _ hql, rfl⟩⟩⟩

theorem law3Of_says (p : Bool) (a b : List Int) (ha : WS a) (hb : WS b) (hla : a.length ≤ 5000) (hlb : b.length ≤ 5000) : ∃ x y, offcutlaw03_Of p a b (x, y) := by
  have tl : ∀ {l : List Int}, WS l → l.length ≤ 5000 → (decT (val l)).length ≤ 50001 := fun {l} h hl => by
    have h1 := val_lt h
    have h2 := w10 l.length
    have h3 : 10 ^ (10 * l.length) ≤ 10 ^ (10 * l.length + 1) := Nat.pow_le_pow_right (by omega) (by omega)
    have := decT_len (10 * l.length) (val l) (by omega)
    omega
  have l1 := tl ha hla
  have l2 := tl hb hlb
  have ho1 := refOf_says a ha hla
  have ho2 := refOf_says b hb hlb
  have hm := refMade_says p (val a) (by omega)
  unfold offcutlaw03_Of
  by_cases h0 : val b = 0
  · obtain ⟨x, y, hxy⟩ := refLow_says p (val a) 1 (by omega) (by omega) (by rw [decT_lt (by omega)]; simp)
    rw [show decT 1 = [49] from by rw [decT_lt (by omega)]; rfl] at hxy
    refine ⟨x, y, _, ho2, IfB.intro (fun _ => ⟨_, ho1, _, hm, _, _, hxy, rfl⟩) (fun h => ?_)⟩
    rw [decT_eq0] at h
    simp [h0] at h
  · obtain ⟨x, y, hxy⟩ := refLow_says p (val a) (val b) (by omega) (by omega) (by omega)
    refine ⟨x, y, _, ho2, IfB.intro (fun h => ?_) (fun _ => ⟨_, ho1, _, hm, _, _, hxy, rfl⟩)⟩
    rw [decT_eq0] at h
    simp [h0] at h

end Go.Abs
