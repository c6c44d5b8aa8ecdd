/- What is true of the seat's program as a whole, for every row. -/
import Derived.Test.YtfclelafcdcilaaDoorRows
import Derived.ClosedOfChecked
import Derived.JoinedOf
import Derived.WalkKit
import Derived.ProofKit
namespace Go.Proofs.YtfclelafcdcilaaDoor.Facts
open Go Go.Proofs
theorem three : laidOutB Tryd.checked.prog = true ∧ mapsRowed Tryd.checked.prog = true ∧ Tryd.checked.prog.plainKeys = true :=
  Go.ClosedOfChecked.closed_of_checked Tryd.checked (by kernel_rfl) (by kernel_rfl) (by kernel_rfl)
theorem laidOut : laidOutB Tryd.prog = true := three.1
theorem rowed : mapsRowed Tryd.prog = true := three.2.1
theorem keys : Tryd.prog.plainKeys = true := three.2.2
theorem quiet1 : (Tryd.prog.stops == []) = true := by kernel_rfl
theorem quiet2 : (Tryd.prog.stopKnobs == []) = true := by kernel_rfl
theorem heard : Tryd.prog.stopsHeard = true := by kernel_rfl
theorem may : Tryd.prog.mayEnter = true := by kernel_rfl
theorem lifts : Tryd.prog.liftsFinal = false := by kernel_rfl
theorem make : Tryd.prog.make = some .cut := by kernel_rfl
end Go.Proofs.YtfclelafcdcilaaDoor.Facts
