/- Chapter 17: PackFirst, PackFull and PackLeast answer yes. -/
import Derived.Test.YtjhpilmjfbkanaaDoorG17aW
import Derived.Test.YtjhpilmjfbkanaaDoorL17d
namespace Go.Abs
open Go.Proofs
theorem packFirst_main (roll : Int) (ws : List Int) (_ : In64 roll) (_ : ∀ w, w ∈ ws → In64 w) : ASpec Tryd.prog gt17 3 [.pd (i64 roll), .pd (ints ws)] (· = .pd (.bool true)) := f3_ok roll ws (law_first roll ws)
theorem packFull_main (roll : Int) (ws : List Int) (_ : In64 roll) (_ : ∀ w, w ∈ ws → In64 w) : ASpec Tryd.prog gt17 6 [.pd (i64 roll), .pd (ints ws)] (· = .pd (.bool true)) := f6_ok roll ws (law_full roll ws)
theorem packLeast_main (roll : Int) (ws : List Int) (_ : In64 roll) (_ : ∀ w, w ∈ ws → In64 w) : ASpec Tryd.prog gt17 5 [.pd (i64 roll), .pd (ints ws)] (· = .pd (.bool true)) := f5_ok roll ws (law_least roll ws)
end Go.Abs
