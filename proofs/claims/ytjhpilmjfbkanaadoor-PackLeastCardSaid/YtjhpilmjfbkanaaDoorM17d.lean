/- Chapter 17: conditions of functions that are told by hand. -/
import Derived.Test.YtjhpilmjfbkanaaDoorGW
import Derived.Test.YtjhpilmjfbkanaaDoorP17h
namespace Go.Abs
/-- TrailingZeros, below 4096. -/
def f30 (x r : Int) : Prop := 0 < x ∧ x < 4096 ∧ r = tzE x
/-- What the document fixes of four items: it is so. -/
def f7 (r : Bool) : Prop := r = true
/-- May, both. -/
def f9 (roll : Int) (ws : List Int) (r : Bool) : Prop := r = mayB roll ws
def f10 (roll : Int) (ws : List Int) (r : Bool) : Prop := r = mayB roll ws
/-- ref.Wide. -/
def f17 (ws : List Int) (set r : Int) : Prop := In64 set ∧ small ws ∧ r = wideL ws set ws.length
/-- pack.wide. -/
def f20 (ws : List Int) (set r : Int) : Prop := 0 ≤ set ∧ set < 2 ^ ws.length ∧ ws.length ≤ 12 ∧ (∀ w, w ∈ ws → 0 ≤ w ∧ w ≤ 1048576) ∧ r = wideL ws set ws.length
/-- pack.Packs. -/
def f13 (roll : Int) (ws sets : List Int) (r : Bool) : Prop := (∀ s, s ∈ sets → In64 s) ∧ sets.length < 1000000 ∧ r = packsB roll ws sets
end Go.Abs
