/-
  A world in which the listed variables are laid.
-/
import Derived.Test.YtehgbpepaakanaaDoorRows
import Derived.ProofKit
import Derived.LaidMore
import Derived.OpenShut
import Derived.Stop.Joined
namespace Go.Proofs.YtehgbpepaakanaaDoor
open Go.ChangeShapes Go.WideShapes Go.ChangeAt Go.RowKit
set_option maxRecDepth 100000

def cellOfD : DataW Unit → Value
  | .lit (.int k n) => .int k n
  | _ => undef
def cellsOfD : DataW Unit → Array Value
  | .agg l => (l.map cellOfD).toArray
  | _ => #[]
theorem gFirst : Tryd.prog.globalNamed "unicode/utf8.first" = some 0 := by kernel_rfl
theorem gAcc : Tryd.prog.globalNamed "unicode/utf8.acceptRanges" = some 1 := by kernel_rfl
/-- The door's own heap, the pinned table laid in it. -/
noncomputable def laidWorld (os : Os) : World :=
  let w0 := World.doorLaid Tryd.prog 400 os
  { w0 with heap := w0.heap.modify 0 fun
      | .cells _ t frozen => .cells (cellsOfD Go.Pinned.utf8First) t frozen
      | o => o }
theorem laid_met (os : Os) (args : Array Value) : laidMetH Tryd.prog Rows.wholeSpoiltRow.laid ((laidWorld os).forCall (fun _ _ => 0) ⟨#[], args, []⟩).memory :=
  laidMetH_of_parts3 (fuel := 8) (laidMet_of_run' 8 (by kernel_rfl) (by kernel_rfl)) (by kernel_rfl) (by kernel_rfl)
end Go.Proofs.YtehgbpepaakanaaDoor
