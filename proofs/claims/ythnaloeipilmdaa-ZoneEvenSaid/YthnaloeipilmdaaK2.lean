/- Zones with as many hosts each: computed. -/
import Derived.Test.YthnaloeipilmdaaK1
set_option linter.unusedVariables false
set_option linter.unusedSimpArgs false
namespace Go.Proofs.Ythnaloeipilmdaa.Dv
open Go Go.Proofs
set_option maxRecDepth 100000 in
theorem ze30 : zeRun (3, 0) = true := by kernel_rfl
set_option maxRecDepth 100000 in
theorem ze31 : zeRun (3, 1) = true := by kernel_rfl
set_option maxRecDepth 100000 in
theorem ze32 : zeRun (3, 2) = true := by kernel_rfl
set_option maxRecDepth 100000 in
theorem ze33 : zeRun (3, 3) = true := by kernel_rfl
set_option maxRecDepth 100000 in
theorem ze34 : zeRun (3, 4) = true := by kernel_rfl
theorem ze_all : ∀ a : Nat × Nat, a.1 < 4 ∧ a.2 < 5 → restRun Try.prog M2 60 Try.f17 2 (zeT a) [] = some (.bool true) := by
  rintro ⟨i, j⟩ ⟨hi, hj⟩
  refine zeRun_ok ?_
  have hi' : i = 0 ∨ i = 1 ∨ i = 2 ∨ i = 3 := by simp only at hi; omega
  have hj' : j = 0 ∨ j = 1 ∨ j = 2 ∨ j = 3 ∨ j = 4 := by simp only at hj; omega
  rcases hi' with rfl | rfl | rfl | rfl <;> rcases hj' with rfl | rfl | rfl | rfl | rfl
  · exact ze00
  · exact ze01
  · exact ze02
  · exact ze03
  · exact ze04
  · exact ze10
  · exact ze11
  · exact ze12
  · exact ze13
  · exact ze14
  · exact ze20
  · exact ze21
  · exact ze22
  · exact ze23
  · exact ze24
  · exact ze30
  · exact ze31
  · exact ze32
  · exact ze33
  · exact ze34
theorem zeN (n e : Int) : (0 : Int) ≤ wr IntKind.u64 n ∧ (0 : Int) < (4 : Int) ∧ inK IntKind.i64 (wr IntKind.u64 n % (4 : Int)) ∧ inK IntKind.i64 ((2 : Int) + wr IntKind.u64 n % (4 : Int)) ∧ (0 : Int) ≤ wr IntKind.u64 e ∧ (0 : Int) < (5 : Int) ∧ inK IntKind.i64 (wr IntKind.u64 e % (5 : Int)) ∧ inK IntKind.i64 ((1 : Int) + wr IntKind.u64 e % (5 : Int)) ∧ ∃ (a : Nat × Nat), (a.fst.succ ≤ (4 : Nat) ∧ a.snd.succ ≤ (5 : Nat)) ∧ D.int IntKind.i64 ((2 : Int) + (↑a.fst : Int)) = D.int IntKind.i64 ((2 : Int) + wr IntKind.u64 n % (4 : Int)) ∧ D.int IntKind.i64 ((1 : Int) + (↑a.snd : Int)) = D.int IntKind.i64 ((1 : Int) + wr IntKind.u64 e % (5 : Int)) := by
  have hu : 0 ≤ wr IntKind.u64 n := by simp only [wr]; omega
  have hv : 0 ≤ wr IntKind.u64 e := by simp only [wr]; omega
  simp only [inK]
  refine ⟨hu, by omega, by omega, by omega, hv, by omega, by omega, by omega, ((wr IntKind.u64 n % 4).toNat, (wr IntKind.u64 e % 5).toNat), ⟨by simp only; omega, by simp only; omega⟩, ?_, ?_⟩
  · simp only [D.int.injEq, true_and]; omega
  · simp only [D.int.injEq, true_and]; omega
theorem zoneEven_law {x0 : List D} (o0 : OkL reachBytes [.int .i64] x0) {x1 : List D} (o1 : OkL reachBytes [.int .i64] x1) : DataFun Try.prog 17 [vOf false x0, vOf false x1] (.bool true) := by
  obtain ⟨n, rfl, _⟩ := okl1_int o0
  obtain ⟨e, rfl, _⟩ := okl1_int o1
  exact dataFunH (C := cfgH [] [(11, .w), (16, .w)]) (ctrs_ok [] rfl rfl) rfl goodM2 primM2 Try.func17 2 60 (by kernel_rfl) (by kernel_rfl) (by kernel_rfl) (by kernel_rfl) (by kernel_rfl) (by kernel_rfl) (by kernel_rfl) (fun a : Nat × Nat => a.1 < 4 ∧ a.2 < 5) [] zeT (fun _ => []) ze_all (by kernel_rfl) (zeN n e)
end Go.Proofs.Ythnaloeipilmdaa.Dv
