/- A configuration that is held, and times. -/
import Derived.Test.YtgibpomhiilehaaD1
set_option linter.unusedVariables false
set_option linter.unusedSimpArgs false
namespace Go.Proofs.Ytgibpomhiilehaa.Dv
open Go Go.Proofs
def timeI (n : Int) : Int := min (max n 0) 4611686018427387904
def timeS : List D → Option DOut := fun vs => match vs with | [.int .i64 n] => some ⟨True, .int .i64 (timeI n)⟩ | _ => none
theorem timeN' (n : Int) : D.int IntKind.i64 (max (0 : Int) (min n (4611686018427387904 : Int))) = D.int IntKind.i64 (timeI n) := by
  first | rfl | (simp only [timeI, D.int.injEq, true_and]; omega)
def timeC' : Ctr := ⟨83, timeS, by
  intro vs o ho hp
  unfold timeS at ho
  split at ho
  · rename_i n; injection ho with ho; subst ho
    exact dataFun0 (C := cfgOf []) (ctrs_ok [] rfl rfl) rfl Try.func83 (by kernel_rfl) (by kernel_rfl) (by kernel_rfl) (by kernel_rfl) (by kernel_rfl) (timeN' n)
  · cases ho⟩
def heldS (vs : List D) : Option DOut := match vs with | [.agg cs] => some ⟨.agg cs = (dCfg (.agg cs)).toD ∧ (dCfg (.agg cs)).zone.size ≤ 9223372036854775807, (held (dCfg (.agg cs))).toD⟩ | _ => none
theorem heldN {c : Cfg} (hz : c.zone.size ≤ 9223372036854775807) : (D.agg [D.int IntKind.i64 c.interval, D.int IntKind.i64 c.timeout, D.int IntKind.i64 c.jitter, D.int IntKind.i64 c.rise, D.int IntKind.i64 c.fall, D.int IntKind.i64 c.panic, D.int IntKind.i64 c.over, D.int IntKind.i64 c.errors, D.int IntKind.i64 c.sweep, D.int IntKind.i64 c.hosts, D.int IntKind.i64 c.requests, D.int IntKind.i64 c.factor, D.int IntKind.i64 c.fails, D.int IntKind.i64 c.base, D.int IntKind.i64 c.eject, D.bool c.one, D.int IntKind.i64 c.slow, D.int IntKind.i64 c.drain, D.int IntKind.i64 c.hostLimit, D.int IntKind.i64 c.poolLimit, D.int IntKind.i64 c.policy, D.str c.zone, D.bool c.fallback] = D.agg [D.int IntKind.i64 c.interval, D.int IntKind.i64 c.timeout, D.int IntKind.i64 c.jitter, D.int IntKind.i64 c.rise, D.int IntKind.i64 c.fall, D.int IntKind.i64 c.panic, D.int IntKind.i64 c.over, D.int IntKind.i64 c.errors, D.int IntKind.i64 c.sweep, D.int IntKind.i64 c.hosts, D.int IntKind.i64 c.requests, D.int IntKind.i64 c.factor, D.int IntKind.i64 c.fails, D.int IntKind.i64 c.base, D.int IntKind.i64 c.eject, D.bool c.one, D.int IntKind.i64 c.slow, D.int IntKind.i64 c.drain, D.int IntKind.i64 c.hostLimit, D.int IntKind.i64 c.poolLimit, D.int IntKind.i64 c.policy, D.str c.zone, D.bool c.fallback] ∧ c.zone.size ≤ (9223372036854775807 : Nat)) ∧ ((!mayCfg c) = true → True ∧ D.agg [D.int IntKind.i64 (100 : Int), D.int IntKind.i64 (20 : Int), D.int IntKind.i64 (0 : Int), D.int IntKind.i64 (2 : Int), D.int IntKind.i64 (3 : Int), D.int IntKind.i64 (50 : Int), D.int IntKind.i64 (140 : Int), D.int IntKind.i64 (5 : Int), D.int IntKind.i64 (1000 : Int), D.int IntKind.i64 (5 : Int), D.int IntKind.i64 (100 : Int), D.int IntKind.i64 (1900 : Int), D.int IntKind.i64 (0 : Int), D.int IntKind.i64 (3000 : Int), D.int IntKind.i64 (10 : Int), D.bool true, D.int IntKind.i64 (0 : Int), D.int IntKind.i64 (5000 : Int), D.int IntKind.i64 (1000 : Int), D.int IntKind.i64 (10000 : Int), D.int IntKind.i64 (1 : Int), D.str ByteArray.empty, D.bool false] = D.agg [D.int IntKind.i64 (held c).interval, D.int IntKind.i64 (held c).timeout, D.int IntKind.i64 (held c).jitter, D.int IntKind.i64 (held c).rise, D.int IntKind.i64 (held c).fall, D.int IntKind.i64 (held c).panic, D.int IntKind.i64 (held c).over, D.int IntKind.i64 (held c).errors, D.int IntKind.i64 (held c).sweep, D.int IntKind.i64 (held c).hosts, D.int IntKind.i64 (held c).requests, D.int IntKind.i64 (held c).factor, D.int IntKind.i64 (held c).fails, D.int IntKind.i64 (held c).base, D.int IntKind.i64 (held c).eject, D.bool (held c).one, D.int IntKind.i64 (held c).slow, D.int IntKind.i64 (held c).drain, D.int IntKind.i64 (held c).hostLimit, D.int IntKind.i64 (held c).poolLimit, D.int IntKind.i64 (held c).policy, D.str (held c).zone, D.bool (held c).fallback]) ∧ ((!mayCfg c) = false → D.agg [D.int IntKind.i64 c.interval, D.int IntKind.i64 c.timeout, D.int IntKind.i64 c.jitter, D.int IntKind.i64 c.rise, D.int IntKind.i64 c.fall, D.int IntKind.i64 c.panic, D.int IntKind.i64 c.over, D.int IntKind.i64 c.errors, D.int IntKind.i64 c.sweep, D.int IntKind.i64 c.hosts, D.int IntKind.i64 c.requests, D.int IntKind.i64 c.factor, D.int IntKind.i64 c.fails, D.int IntKind.i64 c.base, D.int IntKind.i64 c.eject, D.bool c.one, D.int IntKind.i64 c.slow, D.int IntKind.i64 c.drain, D.int IntKind.i64 c.hostLimit, D.int IntKind.i64 c.poolLimit, D.int IntKind.i64 c.policy, D.str c.zone, D.bool c.fallback] = D.agg [D.int IntKind.i64 (held c).interval, D.int IntKind.i64 (held c).timeout, D.int IntKind.i64 (held c).jitter, D.int IntKind.i64 (held c).rise, D.int IntKind.i64 (held c).fall, D.int IntKind.i64 (held c).panic, D.int IntKind.i64 (held c).over, D.int IntKind.i64 (held c).errors, D.int IntKind.i64 (held c).sweep, D.int IntKind.i64 (held c).hosts, D.int IntKind.i64 (held c).requests, D.int IntKind.i64 (held c).factor, D.int IntKind.i64 (held c).fails, D.int IntKind.i64 (held c).base, D.int IntKind.i64 (held c).eject, D.bool (held c).one, D.int IntKind.i64 (held c).slow, D.int IntKind.i64 (held c).drain, D.int IntKind.i64 (held c).hostLimit, D.int IntKind.i64 (held c).poolLimit, D.int IntKind.i64 (held c).policy, D.str (held c).zone, D.bool (held c).fallback]) := by
  refine ⟨⟨rfl, hz⟩, ?_⟩
  unfold held
  cases mayCfg c <;> simp [cfgDef]
def heldC : Ctr := ⟨68, heldS, by
  intro vs o ho hp
  unfold heldS at ho
  split at ho
  · injection ho with ho; subst ho
    obtain ⟨h1, h2⟩ := hp
    simp only at h1 h2 ⊢
    rw [h1]
    generalize dCfg (.agg _) = c at *
    exact dataFun0 (C := cfgOf [mayCfgC', defC']) (ctrs_ok [mayCfgC', defC'] rfl rfl) rfl Try.func68 (by kernel_rfl) (by kernel_rfl) (by kernel_rfl) (by kernel_rfl) (by kernel_rfl) (heldN h2)
  · cases ho⟩
theorem held_nums (c : Cfg) : (held c).nums := by
  unfold held
  split
  · rename_i h; exact (of_decide_eq_true h).1
  · decide
end Go.Proofs.Ytgibpomhiilehaa.Dv
