/- Chapter 17: these functions do so. -/
import Derived.Test.YtjhpilmjfbkanaaDoorM17d
import Derived.Test.YtjhpilmjfbkanaaDoorProg
namespace Go.Abs
open Go.Proofs
theorem f30_ok (x : Int) {r : Int} (h : f30 x r) : ASpec Tryd.prog gt17 30 [.pd (.int .u64 x)] (· = .pd (.int .i64 r)) := by
  obtain ⟨h0, h1, rfl⟩ := h
  exact tz30 x h0 h1
theorem f7_ok {r : Bool} (h : f7 r) : ASpec Tryd.prog gt17 7 [] (· = .pd (.bool r)) := by
  obtain rfl := h
  exact awake7
theorem f9_ok (roll : Int) (ws : List Int) {r : Bool} (h : f9 roll ws r) : ASpec Tryd.prog gt17 9 [.pd (.int .i64 roll), .pd (ints ws)] (· = .pd (.bool r)) := by
  obtain rfl := h
  exact may9 gt17 roll ws
theorem f10_ok (roll : Int) (ws : List Int) {r : Bool} (h : f10 roll ws r) : ASpec Tryd.prog gt17 10 [.pd (.int .i64 roll), .pd (ints ws)] (· = .pd (.bool r)) := by
  obtain rfl := h
  exact may10 gt17 roll ws
theorem f17_ok (ws : List Int) (set : Int) {r : Int} (h : f17 ws set r) : ASpec Tryd.prog gt17 17 [.pd (ints ws), .pd (.int .i64 set)] (· = .pd (.int .i64 r)) := by
  obtain ⟨h1, h2, rfl⟩ := h
  exact wide17 gt17 ws set h1 h2
theorem f20_ok (ws : List Int) (set : Int) {r : Int} (h : f20 ws set r) : ASpec Tryd.prog gt17 20 [.pd (ints ws), .pd (.int .i64 set)] (· = .pd (.int .i64 r)) := by
  obtain ⟨h1, h2, h3, h4, rfl⟩ := h
  exact wide20 ws set h1 h2 h3 h4
theorem f13_ok (roll : Int) (ws sets : List Int) {r : Bool} (h : f13 roll ws sets r) : ASpec Tryd.prog gt17 13 [.pd (.int .i64 roll), .pd (ints ws), .pd (ints sets)] (· = .pd (.bool r)) := by
  obtain ⟨h1, h2, rfl⟩ := h
  exact packs13 roll ws sets h1 h2
end Go.Abs
