/- Proved here: for every input  the Go law LoadChooses returns true, and each argument reads behind the call as it read before. Conditions: none beyond the statement's own. -/
import Derived.Test.YthnaloeipilmdaaRows
import Derived.Test.YthnaloeipilmdaaDvLim
import Derived.Test.YthnaloeipilmdaaFacts
import Derived.Test.YthnaloeipilmdaaL4
import Derived.SizedLaws
import Derived.WalkKit
import Derived.ProofKit
import Derived.OpenShut
import Derived.ShutString
import Derived.ChangeOld
import Derived.Below
namespace Go.Proofs.Ythnaloeipilmdaa.loadChooses
open Go.ChangeShapes Go.WideShapes Go.ChangeAt Go.RowKit
open Go.Proofs.Ythnaloeipilmdaa.Dv (LK OkL R1 R vOf arg_okL fits_of law_data)
set_option linter.unusedVariables false

theorem own : ownKnob Try.prog.godebug = none := by kernel_rfl
theorem laidOut : laidOutB Try.prog = true := Facts.laidOut

set_option maxRecDepth 100000 in
theorem lifted (os : Os) (started : os.Started) (H : Type) (enc : TypeId × Value → H) :
    ReturnsInHanded {} Try.checked os 19 .any (Rows.loadChoosesSpec.pre6 enc Try.prog Try.f19 Rows.loadChoosesRow.domain false) (Rows.loadChoosesSpec.post enc Try.prog Try.f19 false true false false) := by
  refine returnsInHanded_of_change_sized (C := Try.checked) own started (by kernel_rfl) Try.func19
    (ChangeSpec.witness6 (enc := enc) (C := Try.checked) false ⟨#[], #[.slice none 0 0], []⟩ 8 (by kernel_rfl) (by kernel_rfl) (by kernel_rfl) (by kernel_rfl)) ?_
  intro W base args ds gs before hval0 hW hcnd hz _
  have hval : ∀ (j : Nat) t v, Try.f19.params[j]? = some t → args[j]? = some v → Value.okWide Try.prog W .any base t v := hval0
  have hW' := hW
  obtain ⟨p, q, hA0, hV, rfl, hfz, hnd⟩ := hW
  have hA : DataW.TrodAll enc Try.prog W 0 (fun _ => true) true Try.f19.params.toList args.toList ds p := hA0
  rw [Try.params19] at hA hval
  obtain ⟨v0, vs0, d0, ds0, p0, q0, hargs, rfl, rfl, h0, r0⟩ := trodAll_cons hA
  obtain ⟨rfl, rfl, rfl⟩ := trodAll_nil r0
  obtain rfl : args = #[v0] := by cases args; simp_all
  obtain ⟨rfl, rfl⟩ := trodVars_none hV
  have lt0 : ∀ x ∈ p0, x.block < W.heap.size := by obtain ⟨m, hm⟩ := h0; exact DataW.trod_lt m _ _ _ hm
  obtain ⟨x0, g0, o0⟩ := arg_okL (B := reachBytes) (r := 0) (m := 9) (ks := [.sl false [.int .i64]]) (by kernel_rfl) (by kernel_rfl) (fits_of hz (j := 0) (t := 24) (by kernel_rfl) rfl) (hval 0 24 v0 rfl rfl) h0
  clear hA0 hval0
  have hτ := Go.Proofs.Ythnaloeipilmdaa.Dv.loadChooses_law o0
  refine (law_data (Go.Proofs.Ythnaloeipilmdaa.Dv.Enters.of Try.func19 (by kernel_rfl)) (R.cons g0 (.nil _)) hτ).mono fun e W' ⟨he, bel⟩ => ?_
  subst he
  exact ⟨_, rfl, _, _, _, [], _, [], hW', trodAll_mk1 (shut_bool Try.underlying4 _), (trodAll_cons_mk (Below.trod laidOut (by kernel_rfl) (of_decide_eq_true (by kernel_rfl)) h0 bel lt0) trodAll_mk0), rfl, bel.frame _, fun h => by cases h⟩

set_option maxHeartbeats 0 in
theorem closed : joinedFacts Try.prog 19 Try.f19 Rows.loadChoosesSpec Rows.loadChoosesRow = true := by
  unfold joinedFacts
  simp only [Bool.and_eq_true]
  repeat' apply And.intro
  all_goals first
    | with_reducible exact Facts.laidOut
    | with_reducible exact Facts.rowed
    | with_reducible exact Facts.quiet1
    | with_reducible exact Facts.quiet2
    | with_reducible exact Facts.heard
    | with_reducible exact Facts.may
    | (rw [Facts.keys]; rfl)
    | (rw [Facts.lifts]; rfl)
    | (rw [Facts.make]; rfl)
    | (as_aux_lemma => kernel_rfl)

theorem over : Rows.loadChoosesRow.holds Try.pinned (OpenSpec.ofChange Rows.loadChoosesSpec) :=
  OpenClaim.holds_of_wide 19 Try.f19 rfl rfl rfl rfl rfl rfl rfl ⟨rfl, rfl, rfl, rfl, rfl⟩ rfl rfl rfl rfl rfl (by kernel_rfl) Try.func19 closed
    (of_decide_eq_true (by kernel_rfl)) (by unfold Func.isWrapper; first | (rw [if_pos (by decide +kernel)]; kernel_rfl) | (rw [if_neg (by decide +kernel)]; exact ⟨rfl, rfl⟩))
    (fun os started H enc _ => lifted os started H enc)

theorem proved : Rows.LoadChoosesSaid := over
#print axioms proved
end Go.Proofs.Ythnaloeipilmdaa.loadChooses
