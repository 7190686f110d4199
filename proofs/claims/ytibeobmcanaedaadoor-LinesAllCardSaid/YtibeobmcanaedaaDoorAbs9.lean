/- Lengths, conversions, arithmetic. -/
import Derived.Test.YtibeobmcanaedaaDoorAbs8
import Derived.Laws.Sem
namespace Go.Abs
open Go.RowKit
variable {P : Program} {B : Nat} {I0 : Nat → Prop} {c : Ctx} {M : Mem} {w : World}

/-! ### len -/
def lenStr : AV → Option Nat
  | .pd (.str s) => some s.length
  | _ => none

def lenSl (M : Mem) : AV → Option Nat
  | .pd (.sl l) => some l.length
  | .fixed l => some l.length
  | .own b n ver => if verOf M b = ver then some n else none
  | _ => none

def lenN (P : Program) (M : Mem) (t : TypeId) (x : AV) : Option Nat :=
  match P.underlying t with
  | some .string => lenStr x
  | some (.slice _) => lenSl M x
  | some (.array n _) => some n
  | some (.pointer a) => match P.underlying a with | some (.array n _) => some n | _ => none
  | _ => none

def aLen (P : Program) (M : Mem) (t : TypeId) (x : AV) : Option AV := (lenN P M t x).map fun (n : Nat) => .pd (.int .i64 n)

/-- A valid own slice is a slice of that length. -/
theorem own_len {v : Value} {b n ver : Nat} (h : ARep c M w v (.own b n ver)) (hv : verOf M b = ver) : ∃ a cap, v = .slice a n cap := by
  cases h with
  | own v b n ver hb hv' hp =>
    rcases hp hv with ⟨cap, l2, sz2, z2, hM2, rfl, _⟩ | ⟨sz2, hM2, rfl, rfl⟩
    · exact ⟨_, _, rfl⟩
    · exact ⟨_, _, rfl⟩

theorem lenSl_ok {x : AV} {v : Value} {n : Nat} (hx : ARep c M w v x) (h : lenSl M x = some n) : ∃ a cap, v = .slice a n cap := by
  unfold lenSl at h
  split at h
  · cases h
    cases hx with
    | pd v x hx => obtain ⟨a, cap, rfl, _⟩ := hx.lens; exact ⟨a, cap, rfl⟩
  · cases h
    cases hx with
    | fixed a n l hn hp => subst hn; exact ⟨a, _, rfl⟩
  · split at h
    · rename_i hv; cases h; exact own_len hx hv
    · cases h
  · cases h

theorem aLen_ok {t ty : TypeId} {x y : AV} {v : Value} (hS : Sim B I0 c M w) (hx : ARep c M w v x) (h : aLen P M t x = some y) : Out P B I0 c M w (Builtin.len_ #[t] ty #[v]) y M := by
  unfold aLen at h
  rw [Option.map_eq_some_iff] at h
  obtain ⟨n, h, rfl⟩ := h
  refine Out.val hS (v' := goInt n) ?_ (.pd _ _ (.int _ _))
  unfold lenN at h
  split at h
  · rename_i hu
    unfold lenStr at h
    split at h
    · cases h
      cases hx with
      | pd v x hx => cases hx; simp [Builtin.len_, run_underlying hu, strV, size_mk]
    · cases h
  · rename_i hu
    obtain ⟨a, cap, rfl⟩ := lenSl_ok hx h
    simp [Builtin.len_, run_underlying hu]
  · rename_i hu
    cases h
    simp [Builtin.len_, run_underlying hu]
  · rename_i hu
    split at h
    · rename_i hu2; cases h
      simp [Builtin.len_, run_underlying hu, run_underlying hu2]
    · cases h
  · cases h

/-! ### arithmetic -/
def cmpI (op : BinOp) (a b : Int) : Option Bool :=
  match op with
  | .eql => some (a == b)
  | .neq => some (a != b)
  | .lss => some (decide (a < b))
  | .leq => some (decide (a ≤ b))
  | .gtr => some (decide (a > b))
  | .geq => some (decide (a ≥ b))
  | _ => none

def bitsI (op : BinOp) (k : IntKind) (a b : Int) : Option Int :=
  match op with
  | .and => some (k.wrap ((BitVec.ofInt k.bits a &&& BitVec.ofInt k.bits b).toNat))
  | .or => some (k.wrap ((BitVec.ofInt k.bits a ||| BitVec.ofInt k.bits b).toNat))
  | .xor => some (k.wrap ((BitVec.ofInt k.bits a ^^^ BitVec.ofInt k.bits b).toNat))
  | .andNot => some (k.wrap ((BitVec.ofInt k.bits a &&& ~~~ BitVec.ofInt k.bits b).toNat))
  | _ => none

def arithI (op : BinOp) (k : IntKind) (a b : Int) : Option AV :=
  match op with
  | .add => some (.pd (.int k (k.wrap (a + b))))
  | .sub => some (.pd (.int k (k.wrap (a - b))))
  | .mul => some (.pd (.int k (k.wrap (a * b))))
  | .quo => if b = 0 then none else some (.pd (.int k (k.wrap (a.tdiv b))))
  | .rem => if b = 0 then none else some (.pd (.int k (a.tmod b)))
  | op =>
    match bitsI op k a b with
    | some n => some (.pd (.int k n))
    | none => (cmpI op a b).map fun t => .pd (.bool t)

def shiftI (op : BinOp) (k : IntKind) (a b : Int) : Option AV :=
  match op with
  | .shl => if b < 0 then none else some (.pd (.int k (k.wrap (a * 2 ^ (min b.toNat k.bits)))))
  | .shr => if b < 0 then none else some (.pd (.int k (a.fdiv (2 ^ (min b.toNat k.bits)))))
  | _ => none

def strI (op : BinOp) (a b : List UInt8) : Option AV :=
  match op with
  | .add => if a.length + b.length ≤ maxB then some (.pd (.str (a ++ b))) else none
  | .eql => some (.pd (.bool (a == b)))
  | .neq => some (.pd (.bool (!(a == b))))
  | .lss => some (.pd (.bool (Op.bytesLess a b)))
  | .leq => some (.pd (.bool (Op.bytesLess a b || a == b)))
  | .gtr => some (.pd (.bool (!(Op.bytesLess a b || a == b))))
  | .geq => some (.pd (.bool (!Op.bytesLess a b)))
  | _ => none

def isShift (op : BinOp) : Bool := match op with | .shl | .shr => true | _ => false

def aBin (P : Program) (op : BinOp) (t : TypeId) (x y : AV) : Option AV :=
  match x, y with
  | .pd (.int k a), .pd (.int k' b) => if isShift op then shiftI op k a b else if k = k' then arithI op k a b else none
  | .pd (.str a), .pd (.str b) => strI op a b
  | .pd (.bool a), .pd (.bool b) =>
    match P.underlying t, op with
    | some .bool, .eql => some (.pd (.bool (a == b)))
    | some .bool, .neq => some (.pd (.bool (!(a == b))))
    | _, _ => none
  | _, _ => none

theorem guard_no {op : BinOp} {t : TypeId} {x y : Operand} {a b : Value} (ha : a.oneCell' = true) (hn : a ≠ .nilIface) : (eqGuard op t x y a b).run P w = .ok () w := by
  cases op <;> simp [eqGuard] <;> (cases a <;> simp_all [Value.oneCell'])

theorem append_mk (a b : List UInt8) : (ByteArray.mk a.toArray ++ ByteArray.mk b.toArray) = ByteArray.mk (a ++ b).toArray := by
  apply ByteArray.ext; simp [ByteArray.data_append]

theorem aBin_ok {op : BinOp} {t : TypeId} {ox oy : Operand} {x y z : AV} {v u : Value} (hS : Sim B I0 c M w) (hx : ARep c M w v x) (hy : ARep c M w u y) (h : aBin P op t x y = some z) :
    Out P B I0 c M w (do eqGuard op t ox oy v u; binOp op t v u) z M := by
  have fin : ∀ (r : Value), v.oneCell' = true → v ≠ .nilIface → (binOp op t v u).run P w = .ok r w → ARep c M w r z → Out P B I0 c M w (do eqGuard op t ox oy v u; binOp op t v u) z M := by
    intro r h1 h2 h3 h4
    exact Out.val hS (by simp [guard_no h1 h2, h3]) h4
  unfold aBin at h
  split at h
  · rename_i k a k' b
    cases hx with
    | pd v x hx =>
    cases hx
    cases hy with
    | pd u y hy =>
    cases hy
    split at h
    · rename_i hs
      cases op <;> simp [isShift] at hs <;> simp [shiftI] at h
      all_goals obtain ⟨h0, rfl⟩ := h
      all_goals refine fin _ rfl (by simp) ?_ (.pd _ _ (.int _ _))
      all_goals simp [binOp, Op.shift, show ¬ (b < 0) by omega]
    · rename_i hs
      split at h
      · rename_i hk
        subst hk
        cases op <;> simp [isShift] at hs <;> simp [arithI, bitsI, cmpI] at h
        case quo => obtain ⟨h0, rfl⟩ := h; refine fin _ rfl (by simp) ?_ (.pd _ _ (.int _ _)); simp [binOp, Op.intDiv, h0]
        case rem => obtain ⟨h0, rfl⟩ := h; refine fin _ rfl (by simp) ?_ (.pd _ _ (.int _ _)); simp [binOp, Op.intDiv, h0]
        all_goals subst h
        all_goals first
          | (refine fin _ rfl (by simp) ?_ (.pd _ _ (.int _ _)); simp [binOp, Op.intArith, Op.intBits]; done)
          | (refine fin _ rfl (by simp) ?_ (.pd _ _ (.bool _)); simp [binOp, Op.intCmp]; done)
      · cases h
  · rename_i a b
    cases hx with
    | pd v x hx =>
    cases hx
    cases hy with
    | pd u y hy =>
    cases hy
    cases op <;> simp [strI] at h
    case add =>
      obtain ⟨h0, rfl⟩ := h
      refine fin _ rfl (by simp [strV]) ?_ (.pd _ _ (.str _))
      have : ¬ (9223372036854775807 < (a.length : Int) + (b.length : Int)) := by simp only [maxB] at h0; omega
      simp only [strV, binOp, Op.stringOp, size_mk]
      simp [IntKind.max, IntKind.signed, IntKind.bits, this, append_mk]
    all_goals subst h
    all_goals refine fin _ rfl (by simp [strV]) ?_ (.pd _ _ (.bool _))
    all_goals simp [strV, binOp, Op.stringOp]
  · rename_i a b
    cases hx with
    | pd v x hx =>
    cases hx
    cases hy with
    | pd u y hy =>
    cases hy
    split at h
    · rename_i hu; cases h
      exact fin _ rfl (by simp) (run_eql_bool _ _ _ _ hu) (.pd _ _ (.bool _))
    · rename_i hu; cases h
      exact fin _ rfl (by simp) (run_neq_bool _ _ _ _ hu) (.pd _ _ (.bool _))
    · cases h
  · cases h

def aUn (op : UnOp) (x : AV) : Option AV :=
  match op, x with
  | .neg, .pd (.int k n) => some (.pd (.int k (k.wrap (0 - n))))
  | .xor, .pd (.int k n) => some (.pd (.int k (k.wrap ((BitVec.ofInt k.bits (if k.signed then -1 else k.max) ^^^ BitVec.ofInt k.bits n).toNat))))
  | .not, .pd (.bool b) => some (.pd (.bool !b))
  | _, _ => none

theorem aUn_ok {op : UnOp} {x z : AV} {v : Value} (hS : Sim B I0 c M w) (hx : ARep c M w v x) (h : aUn op x = some z) : Out P B I0 c M w (Op.unary op v) z M := by
  unfold aUn at h
  split at h
  · cases h
    cases hx with
    | pd v x hx => cases hx; exact Out.val hS (by simp [Op.unary, Op.intArith]) (.pd _ _ (.int _ _))
  · cases h
    cases hx with
    | pd v x hx => cases hx; exact Out.val hS (by simp [Op.unary, Op.intBits]) (.pd _ _ (.int _ _))
  · cases h
    cases hx with
    | pd v x hx => cases hx; exact Out.val hS (by simp [Op.unary]) (.pd _ _ (.bool _))
  · cases h

end Go.Abs
