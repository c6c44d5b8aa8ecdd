/- What is true of the seat's program as a whole, for every row. -/
import Derived.Test.YtfclelafcdcilaaRows
import Derived.ClosedOfChecked
import Derived.JoinedOf
import Derived.WalkKit
import Derived.ProofKit
namespace Go.Proofs.Ytfclelafcdcilaa.Facts
open Go Go.Proofs
theorem three : laidOutB Try.checked.prog = true ∧ mapsRowed Try.checked.prog = true ∧ Try.checked.prog.plainKeys = true :=
  Go.ClosedOfChecked.closed_of_checked Try.checked (by kernel_rfl) (by kernel_rfl) (by kernel_rfl)
theorem laidOut : laidOutB Try.prog = true := three.1
theorem rowed : mapsRowed Try.prog = true := three.2.1
theorem keys : Try.prog.plainKeys = true := three.2.2
theorem quiet1 : (Try.prog.stops == []) = true := by kernel_rfl
theorem quiet2 : (Try.prog.stopKnobs == []) = true := by kernel_rfl
theorem heard : Try.prog.stopsHeard = true := by kernel_rfl
theorem may : Try.prog.mayEnter = true := by kernel_rfl
theorem lifts : Try.prog.liftsFinal = false := by kernel_rfl
theorem make : Try.prog.make = some .cut := by kernel_rfl
end Go.Proofs.Ytfclelafcdcilaa.Facts
