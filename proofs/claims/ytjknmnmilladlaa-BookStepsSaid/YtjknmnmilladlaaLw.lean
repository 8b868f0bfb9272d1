/-
  Words for the laws' walks.
-/
import Derived.Test.YtjknmnmilladlaaP16
namespace Go.Proofs.Ytjknmnmilladlaa
open Go.RowKit

/-- The law returns true; what was there is as it was. -/
def Yes (w : World) (e : Ending) (w' : World) : Prop := e = .returned (.bool true) ∧ Below w.heap.size w w'
theorem IsDos.shape {w : World} {v : Value} {l : List Do} (h : IsDos w v l) : ∃ ao cap, v = .slice ao l.length cap ∧ l.length ≤ cap ∧ cap ≤ 9223372036854775807 := IsRow.shape h

end Go.Proofs.Ytjknmnmilladlaa
