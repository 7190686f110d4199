/- Part of a proof, in few files: MRw. -/
import Derived.Test.YtdbfgnpobfbfmaaGreatDoorMPaK39
import Derived.Test.YtdbfgnpobfbfmaaGreatDoorMPaK37
import Derived.Test.YtdbfgnpobfbfmaaGreatDoorMPaK40

section
namespace Go.Abs
open Go.RowKit Go.Proofs
set_option maxRecDepth 100000
set_option linter.unusedVariables false
def wordsF : Nat → Nat → List Int
  | 0, _ => []
  | f + 1, n => if Nat.beq n 0 then [] else Int.ofNat (n % 4294967296) :: wordsF f (n / 4294967296)
theorem wordsF_eq : ∀ (f n : Nat), n < 4294967296 ^ f → wordsF f n = words n
  | 0, n, h => by
    have : n = 0 := by simpa using h
    subst this; rw [words_zero]; rfl
  | f + 1, n, h => by
    unfold wordsF
    by_cases h0 : n = 0
    · subst h0; rw [words_zero]; rfl
    · rw [if_neg (by simpa using h0), words_pos h0, wordsF_eq f (n / 4294967296) (by rw [Nat.pow_succ] at h; exact Nat.div_lt_of_lt_mul (by rw [Nat.mul_comm]; exact h))]
      rfl
def intsOf : List PD → Option (List Int)
  | [] => some []
  | .int .u32 k :: l => match intsOf l with | some r => some (k :: r) | none => none
  | _ => none
theorem intsOf_ok : ∀ {l : List PD} {r : List Int}, intsOf l = some r → l = r.map elU32
  | [], r, h => by cases h; rfl
  | x :: l, r, h => by
    unfold intsOf at h
    split at h
    · rename_i e; cases e
    · rename_i k l' e
      cases e
      split at h
      · rename_i r' hr
        cases h
        rw [intsOf_ok hr]; rfl
      · cases h
    · cases h
def okI : Int → Bool
  | .ofNat k => Nat.blt k 4294967296
  | _ => false
def okWs (l : List Int) : Bool := Nat.blt l.length 30 && l.all okI
theorem okWs_ok {l : List Int} (h : okWs l = true) : WS l ∧ l.length < 30 := by
  unfold okWs at h
  simp only [Bool.and_eq_true, Nat.blt_eq, List.all_eq_true] at h
  refine ⟨fun x hx => ?_, h.1⟩
  have := h.2 x hx
  unfold okI at this
  split at this
  · simp only [Nat.blt_eq] at this
    rename_i k
    have e : (Int.ofNat k) = (k : Int) := rfl
    omega
  · cases this
def ratA (x : AV) : Option (Bool × List Int × List Int) :=
  match wk x with
  | .agg [.pd (.bool p), .pd (.sl n), .pd (.sl d)] =>
    match intsOf n, intsOf d with
    | some n, some d => if okWs n && okWs d then some (p, n, d) else none
    | _, _ => none
  | _ => none
theorem ratA_ok {x : AV} {p : Bool} {n d : List Int} (h : ratA x = some (p, n, d)) : wk x = .agg [.pd (.bool p), .pd (.sl (n.map elU32)), .pd (.sl (d.map elU32))] ∧ (WS n ∧ n.length < 30) ∧ (WS d ∧ d.length < 30) := by
  unfold ratA at h
  split at h
  · rename_i p' n' d' hw
    split at h
    · rename_i n2 d2 h1 h2
      split at h
      · rename_i hk
        cases h
        simp only [Bool.and_eq_true] at hk
        exact ⟨by rw [hw, intsOf_ok h1, intsOf_ok h2], okWs_ok hk.1, okWs_ok hk.2⟩
      · cases h
    · cases h
  · cases h
def ratV (r : Bool × List Int × List Int) : AV := .agg [.pd (.bool r.1), .pd (.sl (r.2.1.map elU32)), .pd (.sl (r.2.2.map elU32))]
def ratQF (z : Int) (d : Nat) : Option AV :=
  if Nat.blt z.natAbs (4294967296 ^ 60) && Nat.blt d (4294967296 ^ 60) then some (ratV (decide (z < 0), wordsF 60 (z.natAbs / Nat.gcd z.natAbs d), wordsF 60 (d / Nat.gcd z.natAbs d))) else none
theorem ratQF_ok {z : Int} {d : Nat} {x : AV} (h : ratQF z d = some x) : x = ratV (ratQ z d) := by
  unfold ratQF at h
  split at h
  · rename_i hk
    cases h
    simp only [Bool.and_eq_true, Nat.blt_eq] at hk
    unfold ratQ
    rw [wordsF_eq _ _ (Nat.lt_of_le_of_lt (Nat.div_le_self _ _) hk.1), wordsF_eq _ _ (Nat.lt_of_le_of_lt (Nat.div_le_self _ _) hk.2)]
  · cases h
def out1 (x : Option AV) (M : Mem) : Option (AV × Mem × Bool) := match x with | some x => some (x, M, false) | none => none
def orcR (g : FuncId) (args : List AV) (M : Mem) : Option (AV × Mem × Bool) :=
  match g, args with
  | 41, [x, y] =>
    match ratA x, ratA y with
    | some (p, n, d), some (p', n', d') => out1 (ratQF (iV p (val n) * (den1 (val d') : Int) + iV p' (val n') * (den1 (val d) : Int)) (den1 (val d) * den1 (val d'))) M
    | _, _ => orcN g args M
  | 50, [x, y] =>
    match ratA x, ratA y with
    | some (p, n, d), some (p', n', d') => out1 (ratQF (iV p (val n) * iV p' (val n')) (den1 (val d) * den1 (val d'))) M
    | _, _ => orcN g args M
  | 20, [x, y] =>
    match ratA x, ratA y with
    | some (p, n, d), some (p', n', d') => some (.pd (.int .i64 (cmpZ (iV p (val n) * (den1 (val d') : Int)) (iV p' (val n') * (den1 (val d) : Int)))), M, false)
    | _, _ => orcN g args M
  | 23, [x] =>
    match ratA x with
    | some (p, n, d) => some (.pd (.int .i64 (sgn p (val n))), M, false)
    | _ => orcN g args M
  | _, _ => orcN g args M
theorem orcR_ok (m : Tp) (f : FuncId) (args : List AV) (M : Mem) (z : AV × Mem × Bool) (h : orcR f args M = some z) : CallOK Tryz.prog (gtT m) f args M z := by
  have two : ∀ {g : FuncId} {x y : AV} {p : Bool} {n d : List Int} {p' : Bool} {n' d' : List Int} {r : AV}, Enters Tryz.prog g → ratA x = some (p, n, d) → ratA y = some (p', n', d') →
      ASpec Tryz.prog (gtT m) g [.agg [.pd (.bool p), .pd (.sl (n.map elU32)), .pd (.sl (d.map elU32))], .agg [.pd (.bool p'), .pd (.sl (n'.map elU32)), .pd (.sl (d'.map elU32))]] (· = r) → CallOK Tryz.prog (gtT m) g [x, y] M (r, M, false) := by
    intro g x y p n d p' n' d' r he hx hy hs
    refine told_ok he ?_ ?_
    · simp only [List.map_cons, List.map_nil]; rw [(ratA_ok hx).1, (ratA_ok hy).1]; exact hs
    · simp only [List.map_cons, List.map_nil]; rw [(ratA_ok hx).1, (ratA_ok hy).1]; rfl
  unfold orcR at h
  split at h
  · rename_i x y
    split at h
    · rename_i p n d p' n' d' hx hy
      obtain ⟨_, ⟨wn, ln⟩, wd, ld⟩ := ratA_ok hx
      obtain ⟨_, ⟨wn', ln'⟩, wd', ld'⟩ := ratA_ok hy
      unfold out1 at h
      split at h
      · rename_i r hr
        cases h
        obtain rfl := ratQF_ok hr
        exact two (hasT 41 (by kernel_rfl)) hx hy (rat_Add_ok m _ _ _ _ _ _ (rat_Add_says p n d p' n' d' wn wd wn' wd' (by omega) (by omega) (by omega) (by omega)))
      · cases h
    · exact orcN_ok m _ _ M _ h
  · rename_i x y
    split at h
    · rename_i p n d p' n' d' hx hy
      obtain ⟨_, ⟨wn, ln⟩, wd, ld⟩ := ratA_ok hx
      obtain ⟨_, ⟨wn', ln'⟩, wd', ld'⟩ := ratA_ok hy
      unfold out1 at h
      split at h
      · rename_i r hr
        cases h
        obtain rfl := ratQF_ok hr
        exact two (hasT 50 (by kernel_rfl)) hx hy (rat_Mul_ok m _ _ _ _ _ _ (rat_Mul_says p n d p' n' d' wn wd wn' wd' (by omega) (by omega) (by omega) (by omega)))
      · cases h
    · exact orcN_ok m _ _ M _ h
  · rename_i x y
    split at h
    · rename_i p n d p' n' d' hx hy
      obtain ⟨_, ⟨wn, ln⟩, wd, ld⟩ := ratA_ok hx
      obtain ⟨_, ⟨wn', ln'⟩, wd', ld'⟩ := ratA_ok hy
      cases h
      exact two (hasT 20 (by kernel_rfl)) hx hy (rat_Compare_ok m _ _ _ _ _ _ (rat_Compare_says p n d p' n' d' wn wd wn' wd' (by omega) (by omega) (by omega) (by omega)))
    · exact orcN_ok m _ _ M _ h
  · rename_i x
    split at h
    · rename_i p n d hx
      obtain ⟨_, ⟨wn, ln⟩, wd, ld⟩ := ratA_ok hx
      cases h
      refine told_ok (hasT 23 (by kernel_rfl)) ?_ ?_
      · simp only [List.map_cons, List.map_nil]; rw [(ratA_ok hx).1]
        exact rat_Sign_ok m _ _ _ ⟨_, whole_Sign_says p n wn (by omega), rfl⟩
      · simp only [List.map_cons, List.map_nil]; rw [(ratA_ok hx).1]; rfl
    · exact orcN_ok m _ _ M _ h
  · exact orcN_ok m _ _ M _ h
end Go.Abs
end
