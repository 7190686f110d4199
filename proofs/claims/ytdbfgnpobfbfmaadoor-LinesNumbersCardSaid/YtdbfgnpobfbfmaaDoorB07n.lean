/- What awake of chapter 07 answers. -/
import Derived.Test.YtdbfgnpobfbfmaaDoorGW
namespace Go.Abs
def offcutlaw07_awake (r : Bool) : Prop := r = true
end Go.Abs
