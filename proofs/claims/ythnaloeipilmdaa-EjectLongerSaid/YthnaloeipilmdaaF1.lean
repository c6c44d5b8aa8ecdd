/- How many may be out, and for how long. -/
import Derived.Test.YthnaloeipilmdaaD1b
set_option linter.unusedVariables false
set_option linter.unusedSimpArgs false
namespace Go.Proofs.Ythnaloeipilmdaa.Dv
open Go Go.Proofs
theorem knownN {c : Cfg} (hz : c.zone.size ≤ 9223372036854775807) : (D.agg [D.int IntKind.i64 c.interval, D.int IntKind.i64 c.timeout, D.int IntKind.i64 c.jitter, D.int IntKind.i64 c.rise, D.int IntKind.i64 c.fall, D.int IntKind.i64 c.panic, D.int IntKind.i64 c.over, D.int IntKind.i64 c.errors, D.int IntKind.i64 c.sweep, D.int IntKind.i64 c.hosts, D.int IntKind.i64 c.requests, D.int IntKind.i64 c.factor, D.int IntKind.i64 c.fails, D.int IntKind.i64 c.base, D.int IntKind.i64 c.eject, D.bool c.one, D.int IntKind.i64 c.slow, D.int IntKind.i64 c.drain, D.int IntKind.i64 c.hostLimit, D.int IntKind.i64 c.poolLimit, D.int IntKind.i64 c.policy, D.str c.zone, D.bool c.fallback] = D.agg [D.int IntKind.i64 c.interval, D.int IntKind.i64 c.timeout, D.int IntKind.i64 c.jitter, D.int IntKind.i64 c.rise, D.int IntKind.i64 c.fall, D.int IntKind.i64 c.panic, D.int IntKind.i64 c.over, D.int IntKind.i64 c.errors, D.int IntKind.i64 c.sweep, D.int IntKind.i64 c.hosts, D.int IntKind.i64 c.requests, D.int IntKind.i64 c.factor, D.int IntKind.i64 c.fails, D.int IntKind.i64 c.base, D.int IntKind.i64 c.eject, D.bool c.one, D.int IntKind.i64 c.slow, D.int IntKind.i64 c.drain, D.int IntKind.i64 c.hostLimit, D.int IntKind.i64 c.poolLimit, D.int IntKind.i64 c.policy, D.str c.zone, D.bool c.fallback] ∧ c.zone.size ≤ (9223372036854775807 : Nat)) ∧ ((!mayCfg c) = true → True ∧ D.agg [D.int IntKind.i64 (100 : Int), D.int IntKind.i64 (20 : Int), D.int IntKind.i64 (0 : Int), D.int IntKind.i64 (2 : Int), D.int IntKind.i64 (3 : Int), D.int IntKind.i64 (50 : Int), D.int IntKind.i64 (140 : Int), D.int IntKind.i64 (5 : Int), D.int IntKind.i64 (1000 : Int), D.int IntKind.i64 (5 : Int), D.int IntKind.i64 (100 : Int), D.int IntKind.i64 (1900 : Int), D.int IntKind.i64 (0 : Int), D.int IntKind.i64 (3000 : Int), D.int IntKind.i64 (10 : Int), D.bool true, D.int IntKind.i64 (0 : Int), D.int IntKind.i64 (5000 : Int), D.int IntKind.i64 (1000 : Int), D.int IntKind.i64 (10000 : Int), D.int IntKind.i64 (1 : Int), D.str ByteArray.empty, D.bool false] = D.agg [D.int IntKind.i64 (held c).interval, D.int IntKind.i64 (held c).timeout, D.int IntKind.i64 (held c).jitter, D.int IntKind.i64 (held c).rise, D.int IntKind.i64 (held c).fall, D.int IntKind.i64 (held c).panic, D.int IntKind.i64 (held c).over, D.int IntKind.i64 (held c).errors, D.int IntKind.i64 (held c).sweep, D.int IntKind.i64 (held c).hosts, D.int IntKind.i64 (held c).requests, D.int IntKind.i64 (held c).factor, D.int IntKind.i64 (held c).fails, D.int IntKind.i64 (held c).base, D.int IntKind.i64 (held c).eject, D.bool (held c).one, D.int IntKind.i64 (held c).slow, D.int IntKind.i64 (held c).drain, D.int IntKind.i64 (held c).hostLimit, D.int IntKind.i64 (held c).poolLimit, D.int IntKind.i64 (held c).policy, D.str (held c).zone, D.bool (held c).fallback]) ∧ ((!mayCfg c) = false → D.agg [D.int IntKind.i64 c.interval, D.int IntKind.i64 c.timeout, D.int IntKind.i64 c.jitter, D.int IntKind.i64 c.rise, D.int IntKind.i64 c.fall, D.int IntKind.i64 c.panic, D.int IntKind.i64 c.over, D.int IntKind.i64 c.errors, D.int IntKind.i64 c.sweep, D.int IntKind.i64 c.hosts, D.int IntKind.i64 c.requests, D.int IntKind.i64 c.factor, D.int IntKind.i64 c.fails, D.int IntKind.i64 c.base, D.int IntKind.i64 c.eject, D.bool c.one, D.int IntKind.i64 c.slow, D.int IntKind.i64 c.drain, D.int IntKind.i64 c.hostLimit, D.int IntKind.i64 c.poolLimit, D.int IntKind.i64 c.policy, D.str c.zone, D.bool c.fallback] = D.agg [D.int IntKind.i64 (held c).interval, D.int IntKind.i64 (held c).timeout, D.int IntKind.i64 (held c).jitter, D.int IntKind.i64 (held c).rise, D.int IntKind.i64 (held c).fall, D.int IntKind.i64 (held c).panic, D.int IntKind.i64 (held c).over, D.int IntKind.i64 (held c).errors, D.int IntKind.i64 (held c).sweep, D.int IntKind.i64 (held c).hosts, D.int IntKind.i64 (held c).requests, D.int IntKind.i64 (held c).factor, D.int IntKind.i64 (held c).fails, D.int IntKind.i64 (held c).base, D.int IntKind.i64 (held c).eject, D.bool (held c).one, D.int IntKind.i64 (held c).slow, D.int IntKind.i64 (held c).drain, D.int IntKind.i64 (held c).hostLimit, D.int IntKind.i64 (held c).poolLimit, D.int IntKind.i64 (held c).policy, D.str (held c).zone, D.bool (held c).fallback]) := by
  refine ⟨⟨rfl, hz⟩, ?_⟩
  unfold held
  cases mayCfg c <;> simp [cfgDef]
def knownC : Ctr := ⟨76, heldS, by
  intro vs o ho hp
  unfold heldS at ho
  split at ho
  · injection ho with ho; subst ho
    obtain ⟨h1, h2⟩ := hp
    simp only at h1 h2 ⊢
    rw [h1]
    generalize dCfg (.agg _) = c at *
    exact dataFun0 (C := cfgOf [mayCfgC, defC]) (ctrs_ok [mayCfgC, defC] rfl rfl) rfl Try.func76 (by kernel_rfl) (by kernel_rfl) (by kernel_rfl) (by kernel_rfl) (by kernel_rfl) (knownN h2)
  · cases ho⟩
theorem held_zone {c : Cfg} (hz : c.zone.size ≤ 9223372036854775807) : (held c).zone.size ≤ 9223372036854775807 := by
  unfold held
  split
  · exact hz
  · show (ByteArray.empty).size ≤ _; decide
def timesI (n : Int) : Int := min (max n 0) 10
def timesS : List D → Option DOut := fun vs => match vs with | [.int .i64 n] => some ⟨True, .int .i64 (timesI n)⟩ | _ => none
theorem timesN (n : Int) : D.int IntKind.i64 (min (max n (0 : Int)) (10 : Int)) = D.int IntKind.i64 (timesI n) := by
  first | rfl | (simp only [timesI, D.int.injEq, true_and]; omega)
def timesC : Ctr := ⟨78, timesS, by
  intro vs o ho hp
  unfold timesS at ho
  split at ho
  · rename_i n; injection ho with ho; subst ho
    exact dataFun0 (C := cfgOf []) (ctrs_ok [] rfl rfl) rfl Try.func78 (by kernel_rfl) (by kernel_rfl) (by kernel_rfl) (by kernel_rfl) (by kernel_rfl) (timesN n)
  · cases ho⟩
/-- How many of so many may be out. -/
def capM (c : Cfg) (n : Int) : Int := if c.one = true ∧ 0 < n then max (mdI n c.eject 100).1 1 else (mdI n c.eject 100).1
def cfgArg (cs : List D) : Prop := .agg cs = (dCfg (.agg cs)).toD ∧ (dCfg (.agg cs)).zone.size ≤ 9223372036854775807
def capS (vs : List D) : Option DOut := match vs with | [.agg cs, .int .i64 n] => some ⟨cfgArg cs ∧ rI n, .int .i64 (capM (held (dCfg (.agg cs))) n)⟩ | _ => none
theorem held_eject (c : Cfg) : 0 ≤ (held c).eject ∧ (held c).eject ≤ 100 := by
  have := held_nums c
  unfold Cfg.nums at this
  omega
theorem capN {c : Cfg} {n : Int} (hz : c.zone.size ≤ 9223372036854775807) (hn : rI n) : (D.agg [D.int IntKind.i64 c.interval, D.int IntKind.i64 c.timeout, D.int IntKind.i64 c.jitter, D.int IntKind.i64 c.rise, D.int IntKind.i64 c.fall, D.int IntKind.i64 c.panic, D.int IntKind.i64 c.over, D.int IntKind.i64 c.errors, D.int IntKind.i64 c.sweep, D.int IntKind.i64 c.hosts, D.int IntKind.i64 c.requests, D.int IntKind.i64 c.factor, D.int IntKind.i64 c.fails, D.int IntKind.i64 c.base, D.int IntKind.i64 c.eject, D.bool c.one, D.int IntKind.i64 c.slow, D.int IntKind.i64 c.drain, D.int IntKind.i64 c.hostLimit, D.int IntKind.i64 c.poolLimit, D.int IntKind.i64 c.policy, D.str c.zone, D.bool c.fallback] = D.agg [D.int IntKind.i64 c.interval, D.int IntKind.i64 c.timeout, D.int IntKind.i64 c.jitter, D.int IntKind.i64 c.rise, D.int IntKind.i64 c.fall, D.int IntKind.i64 c.panic, D.int IntKind.i64 c.over, D.int IntKind.i64 c.errors, D.int IntKind.i64 c.sweep, D.int IntKind.i64 c.hosts, D.int IntKind.i64 c.requests, D.int IntKind.i64 c.factor, D.int IntKind.i64 c.fails, D.int IntKind.i64 c.base, D.int IntKind.i64 c.eject, D.bool c.one, D.int IntKind.i64 c.slow, D.int IntKind.i64 c.drain, D.int IntKind.i64 c.hostLimit, D.int IntKind.i64 c.poolLimit, D.int IntKind.i64 c.policy, D.str c.zone, D.bool c.fallback] ∧ c.zone.size ≤ (9223372036854775807 : Nat)) ∧ (rI n ∧ rI (held c).eject) ∧ ((held c).one = true → (decide ((0 : Int) < n) = true → D.int IntKind.i64 (max (mdI n (held c).eject (100 : Int)).fst (1 : Int)) = D.int IntKind.i64 (capM (held c) n)) ∧ (decide ((0 : Int) < n) = false → D.int IntKind.i64 (mdI n (held c).eject (100 : Int)).fst = D.int IntKind.i64 (capM (held c) n))) ∧ ((held c).one = false → D.int IntKind.i64 (mdI n (held c).eject (100 : Int)).fst = D.int IntKind.i64 (capM (held c) n)) := by
  have he := held_eject c
  refine ⟨⟨rfl, hz⟩, ⟨hn, by unfold rI; omega⟩, ?_⟩
  unfold capM
  generalize held c = k at *
  cases k.one <;> simp <;> (repeat' (first | (intro _) | (apply And.intro))) <;> first | omega | simp_all
def capC : Ctr := ⟨25, capS, by
  intro vs o ho hp
  unfold capS at ho
  split at ho
  · injection ho with ho; subst ho
    obtain ⟨⟨h1, h2⟩, h3⟩ := hp
    simp only at h1 h2 ⊢
    rw [h1]
    generalize dCfg (.agg _) = c at *
    exact dataFun0 (C := cfgOf [knownC, pctC]) (ctrs_ok [knownC, pctC] rfl rfl) rfl Try.func25 (by kernel_rfl) (by kernel_rfl) (by kernel_rfl) (by kernel_rfl) (by kernel_rfl) (capN h2 h3)
  · cases ho⟩
theorem md100 {n e : Int} (hn : 0 ≤ n) (hn2 : n ≤ 1000000) (he : 0 ≤ e) (he2 : e ≤ 100) : (mdI n e 100).1 = n * e / 100 := by
  have h1 := Int.mul_nonneg hn he
  have h2 := Int.mul_le_mul hn2 he2 he (by omega)
  rw [mdI_ok hn he (by omega) (by omega)]
theorem capM_in (c : Cfg) (n : Int) : 0 ≤ capM (held c) n ∧ capM (held c) n ≤ 4611686018427387904 := by
  have he := held_eject c
  have : 0 ≤ (mdI n (held c).eject 100).1 ∧ (mdI n (held c).eject 100).1 ≤ 4611686018427387904 := by
    unfold mdI
    split
    · simp
    · split
      · simp
      · split
        · simp
        · split
          · simp
          · have : 0 ≤ n * (held c).eject / 100 := Int.ediv_nonneg (Int.mul_nonneg (by omega) (by omega)) (by omega)
            simp only
            omega
  unfold capM
  split <;> omega
def roomM (c : Cfg) (n o : Int) : Int := max (capM c n - max o 0) 0
def roomS (vs : List D) : Option DOut := match vs with | [.agg cs, .int .i64 n, .int .i64 o] => some ⟨cfgArg cs ∧ rI n ∧ rI o, .int .i64 (roomM (held (dCfg (.agg cs))) n o)⟩ | _ => none
theorem roomN {c : Cfg} {n o : Int} (hz : c.zone.size ≤ 9223372036854775807) (hn : rI n) (ho : rI o) : ((D.agg [D.int IntKind.i64 c.interval, D.int IntKind.i64 c.timeout, D.int IntKind.i64 c.jitter, D.int IntKind.i64 c.rise, D.int IntKind.i64 c.fall, D.int IntKind.i64 c.panic, D.int IntKind.i64 c.over, D.int IntKind.i64 c.errors, D.int IntKind.i64 c.sweep, D.int IntKind.i64 c.hosts, D.int IntKind.i64 c.requests, D.int IntKind.i64 c.factor, D.int IntKind.i64 c.fails, D.int IntKind.i64 c.base, D.int IntKind.i64 c.eject, D.bool c.one, D.int IntKind.i64 c.slow, D.int IntKind.i64 c.drain, D.int IntKind.i64 c.hostLimit, D.int IntKind.i64 c.poolLimit, D.int IntKind.i64 c.policy, D.str c.zone, D.bool c.fallback] = D.agg [D.int IntKind.i64 c.interval, D.int IntKind.i64 c.timeout, D.int IntKind.i64 c.jitter, D.int IntKind.i64 c.rise, D.int IntKind.i64 c.fall, D.int IntKind.i64 c.panic, D.int IntKind.i64 c.over, D.int IntKind.i64 c.errors, D.int IntKind.i64 c.sweep, D.int IntKind.i64 c.hosts, D.int IntKind.i64 c.requests, D.int IntKind.i64 c.factor, D.int IntKind.i64 c.fails, D.int IntKind.i64 c.base, D.int IntKind.i64 c.eject, D.bool c.one, D.int IntKind.i64 c.slow, D.int IntKind.i64 c.drain, D.int IntKind.i64 c.hostLimit, D.int IntKind.i64 c.poolLimit, D.int IntKind.i64 c.policy, D.str c.zone, D.bool c.fallback] ∧ c.zone.size ≤ (9223372036854775807 : Nat)) ∧ rI n) ∧ inK IntKind.i64 (capM (held c) n - max o (0 : Int)) ∧ D.int IntKind.i64 (max (capM (held c) n - max o (0 : Int)) (0 : Int)) = D.int IntKind.i64 (roomM (held c) n o) := by
  have h1 := capM_in c n
  unfold rI at ho
  refine ⟨⟨⟨rfl, hz⟩, hn⟩, ?_⟩
  unfold roomM
  simp only [inK]
  exact ⟨by omega, trivial⟩
def roomC : Ctr := ⟨26, roomS, by
  intro vs o ho hp
  unfold roomS at ho
  split at ho
  · injection ho with ho; subst ho
    obtain ⟨⟨h1, h2⟩, h3, h4⟩ := hp
    simp only at h1 h2 ⊢
    rw [h1]
    generalize dCfg (.agg _) = c at *
    exact dataFun0 (C := cfgOf [capC]) (ctrs_ok [capC] rfl rfl) rfl Try.func26 (by kernel_rfl) (by kernel_rfl) (by kernel_rfl) (by kernel_rfl) (by kernel_rfl) (roomN h2 h3 h4)
  · cases ho⟩
/-- Whether a host is out. -/
structure Otg where
  out : Bool
  frm : Int
  till : Int
  times : Int
def Otg.toD (o : Otg) : D := .agg [.bool o.out, .int .i64 o.frm, .int .i64 o.till, .int .i64 o.times]
def outM (c : Cfg) (o : Otg) (now : Int) : Otg := ⟨true, timeI now, timeI now + min (c.base * min (timesI o.times + 1) 10) (4611686018427387904 - timeI now), min (timesI o.times + 1) 10⟩
def backM (o : Otg) : Otg := ⟨false, 0, 0, timesI o.times⟩
def fadeM (o : Otg) : Otg := if o.out = true then ⟨o.out, o.frm, o.till, timesI o.times⟩ else ⟨o.out, o.frm, o.till, max (timesI o.times - 1) 0⟩
def outS (vs : List D) : Option DOut := match vs with | [.agg cs, .agg [.bool a, .int .i64 b, .int .i64 c, .int .i64 d], .int .i64 now] => some ⟨cfgArg cs, (outM (held (dCfg (.agg cs))) ⟨a, b, c, d⟩ now).toD⟩ | _ => none
theorem outN {c : Cfg} (o : Otg) (now : Int) (hz : c.zone.size ≤ 9223372036854775807) : (D.agg [D.int IntKind.i64 c.interval, D.int IntKind.i64 c.timeout, D.int IntKind.i64 c.jitter, D.int IntKind.i64 c.rise, D.int IntKind.i64 c.fall, D.int IntKind.i64 c.panic, D.int IntKind.i64 c.over, D.int IntKind.i64 c.errors, D.int IntKind.i64 c.sweep, D.int IntKind.i64 c.hosts, D.int IntKind.i64 c.requests, D.int IntKind.i64 c.factor, D.int IntKind.i64 c.fails, D.int IntKind.i64 c.base, D.int IntKind.i64 c.eject, D.bool c.one, D.int IntKind.i64 c.slow, D.int IntKind.i64 c.drain, D.int IntKind.i64 c.hostLimit, D.int IntKind.i64 c.poolLimit, D.int IntKind.i64 c.policy, D.str c.zone, D.bool c.fallback] = D.agg [D.int IntKind.i64 c.interval, D.int IntKind.i64 c.timeout, D.int IntKind.i64 c.jitter, D.int IntKind.i64 c.rise, D.int IntKind.i64 c.fall, D.int IntKind.i64 c.panic, D.int IntKind.i64 c.over, D.int IntKind.i64 c.errors, D.int IntKind.i64 c.sweep, D.int IntKind.i64 c.hosts, D.int IntKind.i64 c.requests, D.int IntKind.i64 c.factor, D.int IntKind.i64 c.fails, D.int IntKind.i64 c.base, D.int IntKind.i64 c.eject, D.bool c.one, D.int IntKind.i64 c.slow, D.int IntKind.i64 c.drain, D.int IntKind.i64 c.hostLimit, D.int IntKind.i64 c.poolLimit, D.int IntKind.i64 c.policy, D.str c.zone, D.bool c.fallback] ∧ c.zone.size ≤ (9223372036854775807 : Nat)) ∧ True ∧ inK IntKind.i64 (timesI o.times + (1 : Int)) ∧ inK IntKind.i64 ((held c).base * min (timesI o.times + (1 : Int)) (10 : Int)) ∧ inK IntKind.i64 ((4611686018427387904 : Int) - min (max now (0 : Int)) (4611686018427387904 : Int)) ∧ inK IntKind.i64 (min (max now (0 : Int)) (4611686018427387904 : Int) + min ((held c).base * min (timesI o.times + (1 : Int)) (10 : Int)) ((4611686018427387904 : Int) - min (max now (0 : Int)) (4611686018427387904 : Int))) ∧ D.agg [D.bool true, D.int IntKind.i64 (min (max now (0 : Int)) (4611686018427387904 : Int)), D.int IntKind.i64 (min (max now (0 : Int)) (4611686018427387904 : Int) + min ((held c).base * min (timesI o.times + (1 : Int)) (10 : Int)) ((4611686018427387904 : Int) - min (max now (0 : Int)) (4611686018427387904 : Int))), D.int IntKind.i64 (min (timesI o.times + (1 : Int)) (10 : Int))] = D.agg [D.bool true, D.int IntKind.i64 (timeI now), D.int IntKind.i64 (timeI now + min ((held c).base * min (timesI o.times + (1 : Int)) (10 : Int)) ((4611686018427387904 : Int) - timeI now)), D.int IntKind.i64 (min (timesI o.times + (1 : Int)) (10 : Int))] := by
  have hn := held_nums c
  unfold Cfg.nums at hn
  refine ⟨⟨rfl, hz⟩, ?_⟩
  unfold timesI timeI
  generalize held c = k at *
  obtain ⟨oo, of, ot, on⟩ := o
  simp only [inK]
  have hb : 0 ≤ k.base ∧ k.base ≤ 10000 := by omega
  have h10 : 0 ≤ min (min (max on 0) 10 + 1) 10 ∧ min (min (max on 0) 10 + 1) 10 ≤ 10 := by omega
  generalize min (min (max on 0) 10 + 1) 10 = m at *
  have h1 := Int.mul_nonneg hb.1 h10.1
  have h2 := Int.mul_le_mul hb.2 h10.2 h10.1 (by omega)
  clear hn
  simp
  omega
def outC : Ctr := ⟨27, outS, by
  intro vs o ho hp
  unfold outS at ho
  split at ho
  · rename_i cs a b c' d now; injection ho with ho; subst ho
    obtain ⟨h1, h2⟩ := hp
    simp only at h1 h2 ⊢
    rw [h1]
    generalize dCfg (.agg _) = c at *
    exact dataFun0 (C := cfgOf [knownC, timesC]) (ctrs_ok [knownC, timesC] rfl rfl) rfl Try.func27 (by kernel_rfl) (by kernel_rfl) (by kernel_rfl) (by kernel_rfl) (by kernel_rfl) (outN ⟨a, b, c', d⟩ now h2)
  · cases ho⟩
def backS (vs : List D) : Option DOut := match vs with | [.agg [.bool a, .int .i64 b, .int .i64 c, .int .i64 d]] => some ⟨True, (backM ⟨a, b, c, d⟩).toD⟩ | _ => none
theorem backN (o : Otg) : True ∧ D.agg [D.bool false, D.int IntKind.i64 (0 : Int), D.int IntKind.i64 (0 : Int), D.int IntKind.i64 (timesI o.times)] = D.agg [D.bool false, D.int IntKind.i64 (0 : Int), D.int IntKind.i64 (0 : Int), D.int IntKind.i64 (timesI o.times)] := ⟨trivial, rfl⟩
def backC : Ctr := ⟨29, backS, by
  intro vs o ho hp
  unfold backS at ho
  split at ho
  · rename_i a b c d; injection ho with ho; subst ho
    exact dataFun0 (C := cfgOf [timesC]) (ctrs_ok [timesC] rfl rfl) rfl Try.func29 (by kernel_rfl) (by kernel_rfl) (by kernel_rfl) (by kernel_rfl) (by kernel_rfl) (backN ⟨a, b, c, d⟩)
  · cases ho⟩
def fadeS (vs : List D) : Option DOut := match vs with | [.agg [.bool a, .int .i64 b, .int .i64 c, .int .i64 d]] => some ⟨True, (fadeM ⟨a, b, c, d⟩).toD⟩ | _ => none
theorem fadeN (a : Bool) (b c d : Int) : True ∧ ((!a) = true → inK IntKind.i64 (timesI d - (1 : Int)) ∧ D.agg [D.bool a, D.int IntKind.i64 b, D.int IntKind.i64 c, D.int IntKind.i64 (max (timesI d - (1 : Int)) (0 : Int))] = D.agg [D.bool (fadeM (Otg.mk a b c d)).out, D.int IntKind.i64 (fadeM (Otg.mk a b c d)).frm, D.int IntKind.i64 (fadeM (Otg.mk a b c d)).till, D.int IntKind.i64 (fadeM (Otg.mk a b c d)).times]) ∧ ((!a) = false → D.agg [D.bool a, D.int IntKind.i64 b, D.int IntKind.i64 c, D.int IntKind.i64 (timesI d)] = D.agg [D.bool (fadeM (Otg.mk a b c d)).out, D.int IntKind.i64 (fadeM (Otg.mk a b c d)).frm, D.int IntKind.i64 (fadeM (Otg.mk a b c d)).till, D.int IntKind.i64 (fadeM (Otg.mk a b c d)).times]) := by
  refine ⟨trivial, ?_⟩
  unfold fadeM timesI
  cases a <;> simp [inK] <;> omega
def fadeC : Ctr := ⟨28, fadeS, by
  intro vs o ho hp
  unfold fadeS at ho
  split at ho
  · rename_i a b c d; injection ho with ho; subst ho
    exact dataFun0 (C := cfgOf [timesC]) (ctrs_ok [timesC] rfl rfl) rfl Try.func28 (by kernel_rfl) (by kernel_rfl) (by kernel_rfl) (by kernel_rfl) (by kernel_rfl) (fadeN a b c d)
  · cases ho⟩
end Go.Proofs.Ythnaloeipilmdaa.Dv
