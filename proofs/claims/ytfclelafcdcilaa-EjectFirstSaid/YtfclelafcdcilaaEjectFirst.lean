/- Proved here: for every input  the Go law EjectFirst returns true, and each argument reads behind the call as it read before. Conditions: none beyond the statement's own. -/
import Derived.Test.YtfclelafcdcilaaRows
import Derived.Test.YtfclelafcdcilaaDvB
import Derived.Test.YtfclelafcdcilaaFacts
import Derived.Test.YtfclelafcdcilaaR6
import Derived.SizedLaws
import Derived.WalkKit
import Derived.ProofKit
import Derived.OpenShut
import Derived.ShutString
import Derived.ChangeOld
import Derived.Below
namespace Go.Proofs.Ytfclelafcdcilaa.ejectFirst
open Go.ChangeShapes Go.WideShapes Go.ChangeAt Go.RowKit
open Go.Proofs.Ytfclelafcdcilaa.Dv (LK OkL R1 R vOf arg_okL fits_of law_data)
set_option linter.unusedVariables false

theorem own : ownKnob Try.prog.godebug = none := by kernel_rfl
theorem laidOut : laidOutB Try.prog = true := Facts.laidOut

set_option maxRecDepth 100000 in
theorem lifted (os : Os) (started : os.Started) (H : Type) (enc : TypeId × Value → H) :
    ReturnsInHanded {} Try.checked os 7 .any (Rows.ejectFirstSpec.pre6 enc Try.prog Try.f7 Rows.ejectFirstRow.domain false) (Rows.ejectFirstSpec.post enc Try.prog Try.f7 false true false false) := by
  refine returnsInHanded_of_change_sized (C := Try.checked) own started (by kernel_rfl) Try.func7
    (ChangeSpec.witness6 (enc := enc) (C := Try.checked) false ⟨#[], #[.slice none 0 0, .int .i64 0], []⟩ 8 (by kernel_rfl) (by kernel_rfl) (by kernel_rfl) (by kernel_rfl)) ?_
  intro W base args ds gs before hval0 hW hcnd hz _
  have hval : ∀ (j : Nat) t v, Try.f7.params[j]? = some t → args[j]? = some v → Value.okWide Try.prog W .any base t v := hval0
  have hW' := hW
  obtain ⟨p, q, hA0, hV, rfl, hfz, hnd⟩ := hW
  have hA : DataW.TrodAll enc Try.prog W 0 (fun _ => true) true Try.f7.params.toList args.toList ds p := hA0
  rw [Try.params7] at hA hval
  obtain ⟨v0, vs0, d0, ds0, p0, q0, hargs, rfl, rfl, h0, r0⟩ := trodAll_cons hA
  obtain ⟨v1, vs1, d1, ds1, p1, q1, rfl, rfl, rfl, h1, r1⟩ := trodAll_cons r0
  obtain ⟨rfl, rfl, rfl⟩ := trodAll_nil r1
  obtain rfl : args = #[v0, v1] := by cases args; simp_all
  obtain ⟨rfl, rfl⟩ := trodVars_none hV
  have lt0 : ∀ x ∈ p0, x.block < W.heap.size := by obtain ⟨m, hm⟩ := h0; exact DataW.trod_lt m _ _ _ hm
  obtain ⟨x0, g0, o0⟩ := arg_okL (B := reachBytes) (r := 0) (m := 9) (ks := [.sl true [.int .i64, .int .i64, .int .i64]]) (by kernel_rfl) (by kernel_rfl) (fits_of hz (j := 0) (t := 45) (by kernel_rfl) rfl) (hval 0 45 v0 rfl rfl) h0
  have lt1 : ∀ x ∈ p1, x.block < W.heap.size := by obtain ⟨m, hm⟩ := h1; exact DataW.trod_lt m _ _ _ hm
  obtain ⟨x1, g1, o1⟩ := arg_okL (B := reachBytes) (r := 0) (m := 9) (ks := [.int .i64]) (by kernel_rfl) (by kernel_rfl) (fits_of hz (j := 1) (t := 3) (by kernel_rfl) rfl) (hval 1 3 v1 rfl rfl) h1
  clear hA0 hval0
  have hτ := Go.Proofs.Ytfclelafcdcilaa.Dv.ejectFirst_law o0 o1
  refine (law_data (Go.Proofs.Ytfclelafcdcilaa.Dv.Enters.of Try.func7 (by kernel_rfl)) (R.cons g0 (R.cons g1 (.nil _))) hτ).mono fun e W' ⟨he, bel⟩ => ?_
  subst he
  exact ⟨_, rfl, _, _, _, [], _, [], hW', trodAll_mk1 (shut_bool Try.underlying4 _), (trodAll_cons_mk (Below.trod laidOut (by kernel_rfl) (of_decide_eq_true (by kernel_rfl)) h0 bel lt0) (trodAll_cons_mk (Below.trod laidOut (by kernel_rfl) (of_decide_eq_true (by kernel_rfl)) h1 bel lt1) trodAll_mk0)), rfl, bel.frame _, fun h => by cases h⟩

set_option maxHeartbeats 0 in
theorem closed : joinedFacts Try.prog 7 Try.f7 Rows.ejectFirstSpec Rows.ejectFirstRow = true := by
  unfold joinedFacts
  simp only [Bool.and_eq_true]
  repeat' apply And.intro
  all_goals first
    | with_reducible exact Facts.laidOut
    | with_reducible exact Facts.rowed
    | with_reducible exact Facts.quiet1
    | with_reducible exact Facts.quiet2
    | with_reducible exact Facts.heard
    | with_reducible exact Facts.may
    | (rw [Facts.keys]; rfl)
    | (rw [Facts.lifts]; rfl)
    | (rw [Facts.make]; rfl)
    | (as_aux_lemma => kernel_rfl)

theorem over : Rows.ejectFirstRow.holds Try.pinned (OpenSpec.ofChange Rows.ejectFirstSpec) :=
  OpenClaim.holds_of_wide 7 Try.f7 rfl rfl rfl rfl rfl rfl rfl ⟨rfl, rfl, rfl, rfl, rfl⟩ rfl rfl rfl rfl rfl (by kernel_rfl) Try.func7 closed
    (of_decide_eq_true (by kernel_rfl)) (by unfold Func.isWrapper; first | (rw [if_pos (by decide +kernel)]; kernel_rfl) | (rw [if_neg (by decide +kernel)]; exact ⟨rfl, rfl⟩))
    (fun os started H enc _ => lifted os started H enc)

theorem proved : Rows.EjectFirstSaid := over
#print axioms proved
end Go.Proofs.Ytfclelafcdcilaa.ejectFirst
