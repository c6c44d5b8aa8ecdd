/- Parts and panics. -/
import Derived.Test.YtgibpomhiilehaaD1b
import Derived.Test.YtgibpomhiilehaaG2
set_option linter.unusedVariables false
set_option linter.unusedSimpArgs false
namespace Go.Proofs.Ytgibpomhiilehaa.Dv
open Go Go.Proofs
theorem lknownN {c : Cfg} (hz : c.zone.size ≤ 9223372036854775807) : (D.agg [D.int IntKind.i64 c.interval, D.int IntKind.i64 c.timeout, D.int IntKind.i64 c.jitter, D.int IntKind.i64 c.rise, D.int IntKind.i64 c.fall, D.int IntKind.i64 c.panic, D.int IntKind.i64 c.over, D.int IntKind.i64 c.errors, D.int IntKind.i64 c.sweep, D.int IntKind.i64 c.hosts, D.int IntKind.i64 c.requests, D.int IntKind.i64 c.factor, D.int IntKind.i64 c.fails, D.int IntKind.i64 c.base, D.int IntKind.i64 c.eject, D.bool c.one, D.int IntKind.i64 c.slow, D.int IntKind.i64 c.drain, D.int IntKind.i64 c.hostLimit, D.int IntKind.i64 c.poolLimit, D.int IntKind.i64 c.policy, D.str c.zone, D.bool c.fallback] = D.agg [D.int IntKind.i64 c.interval, D.int IntKind.i64 c.timeout, D.int IntKind.i64 c.jitter, D.int IntKind.i64 c.rise, D.int IntKind.i64 c.fall, D.int IntKind.i64 c.panic, D.int IntKind.i64 c.over, D.int IntKind.i64 c.errors, D.int IntKind.i64 c.sweep, D.int IntKind.i64 c.hosts, D.int IntKind.i64 c.requests, D.int IntKind.i64 c.factor, D.int IntKind.i64 c.fails, D.int IntKind.i64 c.base, D.int IntKind.i64 c.eject, D.bool c.one, D.int IntKind.i64 c.slow, D.int IntKind.i64 c.drain, D.int IntKind.i64 c.hostLimit, D.int IntKind.i64 c.poolLimit, D.int IntKind.i64 c.policy, D.str c.zone, D.bool c.fallback] ∧ c.zone.size ≤ (9223372036854775807 : Nat)) ∧ ((!mayCfg c) = true → True ∧ D.agg [D.int IntKind.i64 (100 : Int), D.int IntKind.i64 (20 : Int), D.int IntKind.i64 (0 : Int), D.int IntKind.i64 (2 : Int), D.int IntKind.i64 (3 : Int), D.int IntKind.i64 (50 : Int), D.int IntKind.i64 (140 : Int), D.int IntKind.i64 (5 : Int), D.int IntKind.i64 (1000 : Int), D.int IntKind.i64 (5 : Int), D.int IntKind.i64 (100 : Int), D.int IntKind.i64 (1900 : Int), D.int IntKind.i64 (0 : Int), D.int IntKind.i64 (3000 : Int), D.int IntKind.i64 (10 : Int), D.bool true, D.int IntKind.i64 (0 : Int), D.int IntKind.i64 (5000 : Int), D.int IntKind.i64 (1000 : Int), D.int IntKind.i64 (10000 : Int), D.int IntKind.i64 (1 : Int), D.str ByteArray.empty, D.bool false] = D.agg [D.int IntKind.i64 (held c).interval, D.int IntKind.i64 (held c).timeout, D.int IntKind.i64 (held c).jitter, D.int IntKind.i64 (held c).rise, D.int IntKind.i64 (held c).fall, D.int IntKind.i64 (held c).panic, D.int IntKind.i64 (held c).over, D.int IntKind.i64 (held c).errors, D.int IntKind.i64 (held c).sweep, D.int IntKind.i64 (held c).hosts, D.int IntKind.i64 (held c).requests, D.int IntKind.i64 (held c).factor, D.int IntKind.i64 (held c).fails, D.int IntKind.i64 (held c).base, D.int IntKind.i64 (held c).eject, D.bool (held c).one, D.int IntKind.i64 (held c).slow, D.int IntKind.i64 (held c).drain, D.int IntKind.i64 (held c).hostLimit, D.int IntKind.i64 (held c).poolLimit, D.int IntKind.i64 (held c).policy, D.str (held c).zone, D.bool (held c).fallback]) ∧ ((!mayCfg c) = false → D.agg [D.int IntKind.i64 c.interval, D.int IntKind.i64 c.timeout, D.int IntKind.i64 c.jitter, D.int IntKind.i64 c.rise, D.int IntKind.i64 c.fall, D.int IntKind.i64 c.panic, D.int IntKind.i64 c.over, D.int IntKind.i64 c.errors, D.int IntKind.i64 c.sweep, D.int IntKind.i64 c.hosts, D.int IntKind.i64 c.requests, D.int IntKind.i64 c.factor, D.int IntKind.i64 c.fails, D.int IntKind.i64 c.base, D.int IntKind.i64 c.eject, D.bool c.one, D.int IntKind.i64 c.slow, D.int IntKind.i64 c.drain, D.int IntKind.i64 c.hostLimit, D.int IntKind.i64 c.poolLimit, D.int IntKind.i64 c.policy, D.str c.zone, D.bool c.fallback] = D.agg [D.int IntKind.i64 (held c).interval, D.int IntKind.i64 (held c).timeout, D.int IntKind.i64 (held c).jitter, D.int IntKind.i64 (held c).rise, D.int IntKind.i64 (held c).fall, D.int IntKind.i64 (held c).panic, D.int IntKind.i64 (held c).over, D.int IntKind.i64 (held c).errors, D.int IntKind.i64 (held c).sweep, D.int IntKind.i64 (held c).hosts, D.int IntKind.i64 (held c).requests, D.int IntKind.i64 (held c).factor, D.int IntKind.i64 (held c).fails, D.int IntKind.i64 (held c).base, D.int IntKind.i64 (held c).eject, D.bool (held c).one, D.int IntKind.i64 (held c).slow, D.int IntKind.i64 (held c).drain, D.int IntKind.i64 (held c).hostLimit, D.int IntKind.i64 (held c).poolLimit, D.int IntKind.i64 (held c).policy, D.str (held c).zone, D.bool (held c).fallback]) := by
  refine ⟨⟨rfl, hz⟩, ?_⟩
  unfold held
  cases mayCfg c <;> simp [cfgDef]
def lknownC : Ctr := ⟨96, heldS, by
  intro vs o ho hp
  unfold heldS at ho
  split at ho
  · injection ho with ho; subst ho
    obtain ⟨h1, h2⟩ := hp
    simp only at h1 h2 ⊢
    rw [h1]
    generalize dCfg (.agg _) = c at *
    exact dataFun0 (C := cfgOf [mayCfgC, defC]) (ctrs_ok [mayCfgC, defC] rfl rfl) rfl Try.func96 (by kernel_rfl) (by kernel_rfl) (by kernel_rfl) (by kernel_rfl) (by kernel_rfl) (lknownN h2)
  · cases ho⟩
def lcfgArg (cs : List D) : Prop := .agg cs = (dCfg (.agg cs)).toD ∧ (dCfg (.agg cs)).zone.size ≤ 9223372036854775807
/-- Whether too few are free. -/
def panM (c : Cfg) (n a : Int) : Bool := decide (0 < a) && decide (cmpI (pr n 100) (pr c.panic a) < 0)
def panS (vs : List D) : Option DOut := match vs with | [.agg cs, .int .i64 n, .int .i64 a] => some ⟨lcfgArg cs ∧ rI n ∧ rI a, .bool (panM (held (dCfg (.agg cs))) n a)⟩ | _ => none
theorem held_rI (c : Cfg) : rI (held c).panic ∧ rI (held c).over := by
  have := held_nums c
  unfold Cfg.nums at this
  unfold rI
  omega
theorem panN {c : Cfg} {n a : Int} (hz : c.zone.size ≤ 9223372036854775807) (hn : rI n) (ha : rI a) : (decide ((0 : Int) < a) = true → (D.agg [D.int IntKind.i64 c.interval, D.int IntKind.i64 c.timeout, D.int IntKind.i64 c.jitter, D.int IntKind.i64 c.rise, D.int IntKind.i64 c.fall, D.int IntKind.i64 c.panic, D.int IntKind.i64 c.over, D.int IntKind.i64 c.errors, D.int IntKind.i64 c.sweep, D.int IntKind.i64 c.hosts, D.int IntKind.i64 c.requests, D.int IntKind.i64 c.factor, D.int IntKind.i64 c.fails, D.int IntKind.i64 c.base, D.int IntKind.i64 c.eject, D.bool c.one, D.int IntKind.i64 c.slow, D.int IntKind.i64 c.drain, D.int IntKind.i64 c.hostLimit, D.int IntKind.i64 c.poolLimit, D.int IntKind.i64 c.policy, D.str c.zone, D.bool c.fallback] = D.agg [D.int IntKind.i64 c.interval, D.int IntKind.i64 c.timeout, D.int IntKind.i64 c.jitter, D.int IntKind.i64 c.rise, D.int IntKind.i64 c.fall, D.int IntKind.i64 c.panic, D.int IntKind.i64 c.over, D.int IntKind.i64 c.errors, D.int IntKind.i64 c.sweep, D.int IntKind.i64 c.hosts, D.int IntKind.i64 c.requests, D.int IntKind.i64 c.factor, D.int IntKind.i64 c.fails, D.int IntKind.i64 c.base, D.int IntKind.i64 c.eject, D.bool c.one, D.int IntKind.i64 c.slow, D.int IntKind.i64 c.drain, D.int IntKind.i64 c.hostLimit, D.int IntKind.i64 c.poolLimit, D.int IntKind.i64 c.policy, D.str c.zone, D.bool c.fallback] ∧ c.zone.size ≤ (9223372036854775807 : Nat)) ∧ (rI n ∧ rI (100 : Int) ∧ rI (held c).panic ∧ rI a) ∧ D.bool (decide (cmpI (pr n (100 : Int)) (pr (held c).panic a) < (0 : Int))) = D.bool (panM (held c) n a)) ∧ (decide ((0 : Int) < a) = false → D.bool false = D.bool (panM (held c) n a)) := by
  have hr := (held_rI c).1
  unfold panM
  refine ⟨fun h => ⟨⟨(by trivial), hz⟩, ⟨hn, by unfold rI; omega, hr, ha⟩, ?_⟩, fun h => ?_⟩
  · rw [h]; rfl
  · rw [h]; rfl
def panC : Ctr := ⟨65, panS, by
  intro vs o ho hp
  unfold panS at ho
  split at ho
  · rename_i cs n a; injection ho with ho; subst ho
    obtain ⟨⟨h1, h2⟩, h3, h4⟩ := hp
    simp only at h1 h2 ⊢
    rw [h1]
    generalize dCfg (.agg _) = c at *
    exact dataFun0 (C := cfgOf [lknownC, cmpC]) (ctrs_ok [lknownC, cmpC] rfl rfl) rfl Try.func65 (by kernel_rfl) (by kernel_rfl) (by kernel_rfl) (by kernel_rfl) (by kernel_rfl) (panN h2 h3 h4)
  · cases ho⟩
/-- How much falls to so many free ones. -/
def partM (c : Cfg) (n a : Int) : Int := if a < 1 ∨ n < 1 ∨ a < n then 0 else if (mdI n c.over a).2 = true then min (mdI n c.over a).1 100 else 100
def partS (vs : List D) : Option DOut := match vs with | [.agg cs, .int .i64 n, .int .i64 a] => some ⟨lcfgArg cs ∧ rI n ∧ rI a, .int .i64 (partM (held (dCfg (.agg cs))) n a)⟩ | _ => none
theorem partN {c : Cfg} {n a : Int} (hz : c.zone.size ≤ 9223372036854775807) (hn : rI n) (ha : rI a) : (decide (a < (1 : Int)) = true → D.int IntKind.i64 (0 : Int) = D.int IntKind.i64 (partM (held c) n a)) ∧ (decide (a < (1 : Int)) = false → (decide (n < (1 : Int)) = true → D.int IntKind.i64 (0 : Int) = D.int IntKind.i64 (partM (held c) n a)) ∧ (decide (n < (1 : Int)) = false → (decide (a < n) = true → D.int IntKind.i64 (0 : Int) = D.int IntKind.i64 (partM (held c) n a)) ∧ (decide (a < n) = false → (D.agg [D.int IntKind.i64 c.interval, D.int IntKind.i64 c.timeout, D.int IntKind.i64 c.jitter, D.int IntKind.i64 c.rise, D.int IntKind.i64 c.fall, D.int IntKind.i64 c.panic, D.int IntKind.i64 c.over, D.int IntKind.i64 c.errors, D.int IntKind.i64 c.sweep, D.int IntKind.i64 c.hosts, D.int IntKind.i64 c.requests, D.int IntKind.i64 c.factor, D.int IntKind.i64 c.fails, D.int IntKind.i64 c.base, D.int IntKind.i64 c.eject, D.bool c.one, D.int IntKind.i64 c.slow, D.int IntKind.i64 c.drain, D.int IntKind.i64 c.hostLimit, D.int IntKind.i64 c.poolLimit, D.int IntKind.i64 c.policy, D.str c.zone, D.bool c.fallback] = D.agg [D.int IntKind.i64 c.interval, D.int IntKind.i64 c.timeout, D.int IntKind.i64 c.jitter, D.int IntKind.i64 c.rise, D.int IntKind.i64 c.fall, D.int IntKind.i64 c.panic, D.int IntKind.i64 c.over, D.int IntKind.i64 c.errors, D.int IntKind.i64 c.sweep, D.int IntKind.i64 c.hosts, D.int IntKind.i64 c.requests, D.int IntKind.i64 c.factor, D.int IntKind.i64 c.fails, D.int IntKind.i64 c.base, D.int IntKind.i64 c.eject, D.bool c.one, D.int IntKind.i64 c.slow, D.int IntKind.i64 c.drain, D.int IntKind.i64 c.hostLimit, D.int IntKind.i64 c.poolLimit, D.int IntKind.i64 c.policy, D.str c.zone, D.bool c.fallback] ∧ c.zone.size ≤ (9223372036854775807 : Nat)) ∧ (rI n ∧ rI (held c).over ∧ rI a) ∧ ((!(mdI n (held c).over a).snd) = true → D.int IntKind.i64 (100 : Int) = D.int IntKind.i64 (partM (held c) n a)) ∧ ((!(mdI n (held c).over a).snd) = false → D.int IntKind.i64 (min (mdI n (held c).over a).fst (100 : Int)) = D.int IntKind.i64 (partM (held c) n a))))) := by
  have hr := (held_rI c).2
  unfold partM
  simp only [decide_eq_true_eq, decide_eq_false_iff_not]
  refine ⟨fun h => ?_, fun h => ⟨fun h1 => ?_, fun h1 => ⟨fun h2 => ?_, fun h2 => ⟨⟨(by trivial), hz⟩, ⟨hn, hr, ha⟩, fun h3 => ?_, fun h3 => ?_⟩⟩⟩⟩
  · rw [if_pos (.inl h)]
  · rw [if_pos (.inr (.inl h1))]
  · rw [if_pos (.inr (.inr h2))]
  · rw [if_neg (by omega)]
    have : (mdI n (held c).over a).2 = false := by simpa using h3
    rw [this]; rfl
  · rw [if_neg (by omega)]
    have : (mdI n (held c).over a).2 = true := by simpa using h3
    rw [this]; rfl
def partC : Ctr := ⟨64, partS, by
  intro vs o ho hp
  unfold partS at ho
  split at ho
  · rename_i cs n a; injection ho with ho; subst ho
    obtain ⟨⟨h1, h2⟩, h3, h4⟩ := hp
    simp only at h1 h2 ⊢
    rw [h1]
    generalize dCfg (.agg _) = c at *
    exact dataFun0 (C := cfgOf [lknownC, mdC]) (ctrs_ok [lknownC, mdC] rfl rfl) rfl Try.func64 (by kernel_rfl) (by kernel_rfl) (by kernel_rfl) (by kernel_rfl) (by kernel_rfl) (partN h2 h3 h4)
  · cases ho⟩
theorem nums_load {c : Cfg} (h : c.nums) : 0 ≤ c.panic ∧ c.panic ≤ 100 ∧ 100 ≤ c.over ∧ c.over ≤ 1000 := by
  unfold Cfg.nums at h
  omega
theorem lheld_may {c : Cfg} (h : mayCfg c = true) : held c = c := if_pos h
theorem lmay_nums {c : Cfg} (h : mayCfg c = true) : c.nums := (of_decide_eq_true h).1
theorem panM_iff {c : Cfg} (hc : c.nums) {n a : Int} (hn : 0 ≤ n) (ha : 0 ≤ a) : panM c n a = true ↔ 0 < a ∧ n * 100 < c.panic * a := by
  have h := nums_load hc
  have e1 : pr n 100 = n * 100 := by unfold pr; rw [Int.max_eq_left hn]; rfl
  have e2 : pr c.panic a = c.panic * a := by unfold pr; rw [Int.max_eq_left h.1, Int.max_eq_left ha]
  unfold panM
  rw [Bool.and_eq_true, decide_eq_true_eq, decide_eq_true_eq, e1, e2]
  unfold cmpI
  constructor
  · rintro ⟨h1, h2⟩
    refine ⟨h1, ?_⟩
    split at h2
    · assumption
    · split at h2 <;> omega
  · rintro ⟨h1, h2⟩
    rw [if_pos h2]
    exact ⟨h1, by omega⟩
theorem partM_eq {c : Cfg} (hc : c.nums) {n a : Int} (hn : 0 ≤ n) (hna : n ≤ a) (ha : a ≤ 1000) : partM c n a = if n < 1 then 0 else min (n * c.over / a) 100 := by
  have h := nums_load hc
  unfold partM
  by_cases h1 : n < 1
  · rw [if_pos h1, if_pos (by omega)]
  · rw [if_neg h1, if_neg (by omega)]
    have hb : n * c.over ≤ 1000 * 1000 := Int.mul_le_mul (by omega) h.2.2.2 (by omega) (by omega)
    have h0 : 0 ≤ n * c.over := Int.mul_nonneg hn (by omega)
    have hd : n * c.over / a ≤ n * c.over := Int.ediv_le_self _ h0
    rw [mdI_ok hn (by omega) (by omega) (by omega)]
    rfl
theorem partM_mono {c : Cfg} (hc : c.nums) {n m a : Int} (hn : 0 ≤ n) (hnm : n ≤ m) (hma : m ≤ a) (ha : a ≤ 1000) : partM c n a ≤ partM c m a := by
  have h := nums_load hc
  rw [partM_eq hc hn (by omega) ha, partM_eq hc (by omega) hma ha]
  by_cases h1 : n < 1
  · rw [if_pos h1]
    split
    · omega
    · have : 0 ≤ m * c.over / a := Int.ediv_nonneg (Int.mul_nonneg (by omega) (by omega)) (by omega)
      omega
  · rw [if_neg h1, if_neg (by omega)]
    have : n * c.over / a ≤ m * c.over / a := Int.ediv_le_ediv (by omega) (Int.mul_le_mul_of_nonneg_right hnm (by omega))
    omega
theorem cfgL_of' {x : List D} (o : OkL reachBytes [.int .i64, .int .i64, .int .i64, .int .i64, .int .i64, .int .i64, .int .i64, .int .i64, .int .i64, .int .i64, .int .i64, .int .i64, .int .i64, .int .i64, .int .i64, .bool, .int .i64, .int .i64, .int .i64, .int .i64, .int .i64, .str, .bool] x) : ∃ c : Cfg, x = c.toD.cells ∧ c.rI ∧ c.zone.size ≤ 9223372036854775807 := by
  cases o with | int h0 t0 =>
  cases t0 with | int h1 t1 =>
  cases t1 with | int h2 t2 =>
  cases t2 with | int h3 t3 =>
  cases t3 with | int h4 t4 =>
  cases t4 with | int h5 t5 =>
  cases t5 with | int h6 t6 =>
  cases t6 with | int h7 t7 =>
  cases t7 with | int h8 t8 =>
  cases t8 with | int h9 t9 =>
  cases t9 with | int h10 t10 =>
  cases t10 with | int h11 t11 =>
  cases t11 with | int h12 t12 =>
  cases t12 with | int h13 t13 =>
  cases t13 with | int h14 t14 =>
  cases t14 with | bool t15 =>
  cases t15 with | int h16 t16 =>
  cases t16 with | int h17 t17 =>
  cases t17 with | int h18 t18 =>
  cases t18 with | int h19 t19 =>
  cases t19 with | int h20 t20 =>
  cases t20 with | str h21 t21 =>
  cases t21 with | bool t22 =>
  cases t22
  exact ⟨⟨_, _, _, _, _, _, _, _, _, _, _, _, _, _, _, _, _, _, _, _, _, _, _⟩, rfl, ⟨wf_i64 h0, wf_i64 h1, wf_i64 h2, wf_i64 h3, wf_i64 h4, wf_i64 h5, wf_i64 h6, wf_i64 h7, wf_i64 h8, wf_i64 h9, wf_i64 h10, wf_i64 h11, wf_i64 h12, wf_i64 h13, wf_i64 h14, wf_i64 h16, wf_i64 h17, wf_i64 h18, wf_i64 h19, wf_i64 h20⟩, Nat.le_trans h21 (by decide)⟩
end Go.Proofs.Ytgibpomhiilehaa.Dv
