/- The evaluator at this seat's program; whole numbers. -/
import Derived.Test.YtfjgngdomjjpgaaDvSym
import Derived.Test.YtfjgngdomjjpgaaProg
import Derived.KernelRfl
set_option linter.unusedVariables false
namespace Go.Proofs.Ytfjgngdomjjpgaa.Dv
open Go Go.Proofs

noncomputable def M1 : Modes := { good := fun f => decide (2 ≤ f) && decide (f < 85), byref := fun f => f == 80, prim := fun _ => none }
noncomputable def goodAt (f : Nat) : Bool := match Try.prog.funcs[f]? with | some fn => goodFn M1 fn | none => true
theorem good_all : ((List.range 83).all fun f => goodAt (f + 2)) = true := by kernel_rfl
theorem goodM : GoodM Try.prog M1 := by
  intro f fn h hf
  have h' : 2 ≤ f ∧ f < 85 := by
    have : (decide (2 ≤ f) && decide (f < 85)) = true := h
    rw [Bool.and_eq_true] at this
    exact ⟨of_decide_eq_true this.1, of_decide_eq_true this.2⟩
  have hlt : f - 2 < 83 := by have := h'.1; have := h'.2; simp only [FuncId] at *; omega
  have := List.all_eq_true.1 good_all (f - 2) (List.mem_range.2 hlt)
  rw [show f - 2 + 2 = f from Nat.sub_add_cancel h'.1] at this
  unfold goodAt at this
  rw [hf] at this
  exact this
theorem primM : PrimOk Try.prog M1 := by
  intro f p h
  cases h
theorem mixM : Try.prog.follows .mixedOrders = true := by kernel_rfl
theorem Fun_of_runN {P : Program} {M : Modes} {f : FuncId} {vs : List D} {r : D} (n : Nat) (hp : M.prim f = none) (hb : M.byref f = false) (h : (((runN P M n).1 f vs []).bind fun q => frz 0 q.2 q.1) = some r) : Fun P M f vs r := by
  obtain ⟨⟨r0, τ⟩, h1, h2⟩ := Option.bind_eq_some_iff.1 h
  exact ⟨hp, hb, r0, τ, run_iff.2 ⟨n, h1⟩, h2⟩
theorem Fun_bool {P : Program} {M : Modes} {f : FuncId} {vs : List D} {b : Bool} (h : Fun P M f vs (.bool b)) : ∃ τ, run P M f vs [] = some (.bool b, τ) := by
  obtain ⟨_, _, r0, τ, h1, h2⟩ := h
  refine ⟨τ, ?_⟩
  rw [h1]
  cases r0 <;> simp only [frz, frzVal, frzLeaf] at h2
  case bool x => simp only [D.pleaf, if_true] at h2; injection h2 with h2; rw [h2]
  case ms =>
    split at h2
    · split at h2 <;> cases h2
    · cases h2
  case agg => obtain ⟨_, _, h⟩ := Option.map_eq_some_iff.1 h2; cases h
  case tup => obtain ⟨_, _, h⟩ := Option.map_eq_some_iff.1 h2; cases h
  all_goals (split at h2 <;> cases h2)

/-! ### whole numbers -/
theorem wrapI (x : Int) : IntKind.wrap .i64 x = (x + 9223372036854775808) % 18446744073709551616 - 9223372036854775808 := by
  have h1 : (2 ^ IntKind.bits .i64 : Int) = 18446744073709551616 := by decide
  have h2 : (2 ^ (IntKind.bits .i64 - 1) : Int) = 9223372036854775808 := by decide
  have h3 : IntKind.signed .i64 = true := rfl
  unfold IntKind.wrap
  simp only [h1, h2, h3, Bool.true_and, decide_eq_true_eq]
  split <;> omega
theorem wrapU (x : Int) : IntKind.wrap .u64 x = x % 18446744073709551616 := by
  have h1 : (2 ^ IntKind.bits .u64 : Int) = 18446744073709551616 := by decide
  have h3 : IntKind.signed .u64 = false := rfl
  unfold IntKind.wrap
  simp only [h1, h3, Bool.false_and, Bool.false_eq_true, if_false]
theorem wrapI_id {x : Int} (h1 : -9223372036854775808 ≤ x) (h2 : x ≤ 9223372036854775807) : IntKind.wrap .i64 x = x := by rw [wrapI]; omega
end Go.Proofs.Ytfjgngdomjjpgaa.Dv
