/- Zones with as many hosts each: computed. -/
import Derived.Test.YthnaloeipilmdaaG2
import Derived.Test.YthnaloeipilmdaaWt
set_option linter.unusedVariables false
set_option linter.unusedSimpArgs false
namespace Go.Proofs.Ythnaloeipilmdaa.Dv
open Go Go.Proofs
def zeT (a : Nat × Nat) : List (Nat × D) := [(0, .int .i64 (2 + a.1)), (1, .int .i64 (1 + a.2))]
noncomputable def zeRun (a : Nat × Nat) : Bool := match restRun Try.prog M2 60 Try.f17 2 (zeT a) [] with | some (.bool b) => b | _ => false
theorem zeRun_ok {a : Nat × Nat} (h : zeRun a = true) : restRun Try.prog M2 60 Try.f17 2 (zeT a) [] = some (.bool true) := by
  unfold zeRun at h
  split at h
  · rename_i b hb; rw [hb, h]
  · cases h
set_option maxRecDepth 100000 in
theorem ze00 : zeRun (0, 0) = true := by kernel_rfl
set_option maxRecDepth 100000 in
theorem ze01 : zeRun (0, 1) = true := by kernel_rfl
set_option maxRecDepth 100000 in
theorem ze02 : zeRun (0, 2) = true := by kernel_rfl
set_option maxRecDepth 100000 in
theorem ze03 : zeRun (0, 3) = true := by kernel_rfl
set_option maxRecDepth 100000 in
theorem ze04 : zeRun (0, 4) = true := by kernel_rfl
set_option maxRecDepth 100000 in
theorem ze10 : zeRun (1, 0) = true := by kernel_rfl
set_option maxRecDepth 100000 in
theorem ze11 : zeRun (1, 1) = true := by kernel_rfl
set_option maxRecDepth 100000 in
theorem ze12 : zeRun (1, 2) = true := by kernel_rfl
set_option maxRecDepth 100000 in
theorem ze13 : zeRun (1, 3) = true := by kernel_rfl
set_option maxRecDepth 100000 in
theorem ze14 : zeRun (1, 4) = true := by kernel_rfl
set_option maxRecDepth 100000 in
theorem ze20 : zeRun (2, 0) = true := by kernel_rfl
set_option maxRecDepth 100000 in
theorem ze21 : zeRun (2, 1) = true := by kernel_rfl
set_option maxRecDepth 100000 in
theorem ze22 : zeRun (2, 2) = true := by kernel_rfl
set_option maxRecDepth 100000 in
theorem ze23 : zeRun (2, 3) = true := by kernel_rfl
set_option maxRecDepth 100000 in
theorem ze24 : zeRun (2, 4) = true := by kernel_rfl
end Go.Proofs.Ythnaloeipilmdaa.Dv
