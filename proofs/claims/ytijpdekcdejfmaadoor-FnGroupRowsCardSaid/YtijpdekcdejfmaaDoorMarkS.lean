/- marks in slices of strings: markStringS, heldStringS (door seats; the same words as in XStrs, over XStr). -/
import Derived.Test.YtijpdekcdejfmaaDoorMarkText
import Derived.Test.YtijpdekcdejfmaaDoorStr
import Derived.Test.YtijpdekcdejfmaaDoorInts
import Derived.Deep.LoopGhost
import Derived.Deep.RegionHeld3
import Derived.StillTailTactics
namespace Go.Proofs.YtijpdekcdejfmaaDoor
open Go Go.RowKit
set_option maxRecDepth 100000

def stMarks (k m : Nat) : List ByteArray := (List.range m).map fun (i : Nat) => markT (k + i)
theorem stMarks_succ (k m : Nat) : stMarks k (m + 1) = stMarks k m ++ [markT (k + m)] := by simp [stMarks, List.range_succ]
theorem stMarks_length (k m : Nat) : (stMarks k m).length = m := by simp [stMarks]
theorem stMarks_at (k m j : Nat) (h : j < m) : (stMarks k m)[j]? = some (markT (k + j)) := by simp [stMarks, h]

end Go.Proofs.YtijpdekcdejfmaaDoor
