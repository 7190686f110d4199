/- Chapter 17: the lowest one of a number below 4096, told out of the table, number by number. -/
import GoSem.Core.View
import Derived.KernelRfl
namespace Go.Abs
set_option maxRecDepth 20000

def halves : Nat → Int → Int
  | 0, n => n
  | k + 1, n => halves k (n.tdiv 2)
def inSet (set : Int) (k : Nat) : Bool := (halves k set).tmod 2 == 1

def n32 : List Int := [0, 1, 28, 2, 29, 14, 24, 3, 30, 22, 20, 15, 25, 17, 4, 8, 31, 27, 13, 23, 21, 19, 16, 7, 26, 12, 18, 6, 11, 5, 10, 9]
def n64 : List Int := [0, 1, 56, 2, 57, 49, 28, 3, 61, 58, 42, 50, 38, 29, 17, 4, 62, 47, 59, 36, 45, 43, 51, 22, 53, 39, 33, 30, 24, 18, 12, 5, 63, 55, 48, 27, 60, 41, 37, 16, 46, 35, 44, 21, 52, 32, 23, 11, 54, 26, 40, 15, 34, 20, 31, 10, 25, 14, 19, 9, 13, 8, 7, 6]

def lowE (x : Int) : Int := IntKind.u64.wrap ((BitVec.ofInt IntKind.u64.bits x &&& BitVec.ofInt IntKind.u64.bits (IntKind.u64.wrap (0 - x))).toNat)
def idxE (x : Int) : Int := (IntKind.u64.wrap (lowE x * 285870213051353865)).fdiv (2 ^ (min (58 : Int).toNat IntKind.u64.bits))
def tzE (x : Int) : Int := n64.getD (idxE x).toNat 0
def clrE (x : Int) : Int := IntKind.i64.wrap ((BitVec.ofInt IntKind.i64.bits x &&& BitVec.ofInt IntKind.i64.bits (IntKind.i64.wrap (x - 1))).toNat)
def itemsE : Nat → Int → List Int
  | 0, _ => []
  | f + 1, x => if decide (0 < x) then tzE x :: itemsE f (clrE x) else []

def chk1 (s : Nat) : Bool := decide (0 ≤ idxE s) && decide (idxE s < 64) && decide (0 ≤ clrE s) && (decide (clrE s < s) || s == 0) && itemsE 13 s == ((List.range 12).filter fun k => inSet s k).map Int.ofNat
theorem chk_all : (List.range 4096).all chk1 = true := by kernel_rfl
theorem n64_le : (List.range 64).all (fun k => decide (0 ≤ n64.getD k 0) && decide (n64.getD k 0 < 64)) = true := by kernel_rfl

theorem chk_at {x : Int} (h0 : 0 ≤ x) (h1 : x < 4096) : 0 ≤ idxE x ∧ idxE x < 64 ∧ 0 ≤ clrE x ∧ (clrE x < x ∨ x = 0) ∧ itemsE 13 x = ((List.range 12).filter fun k => inSet x k).map Int.ofNat := by
  have h := List.all_eq_true.1 chk_all x.toNat (by simp; omega)
  have e : ((x.toNat : Nat) : Int) = x := by omega
  simp only [chk1, e, Bool.and_eq_true, Bool.or_eq_true, decide_eq_true_eq, beq_iff_eq] at h
  obtain ⟨⟨⟨⟨a, b⟩, c⟩, d⟩, f⟩ := h
  exact ⟨a, b, c, d.imp id (by omega), f⟩

theorem tz_le {x : Int} (h0 : 0 ≤ x) (h1 : x < 4096) : 0 ≤ tzE x ∧ tzE x < 64 := by
  obtain ⟨a, b, _⟩ := chk_at h0 h1
  have h := List.all_eq_true.1 n64_le (idxE x).toNat (by simp; omega)
  simpa [tzE] using h

end Go.Abs
