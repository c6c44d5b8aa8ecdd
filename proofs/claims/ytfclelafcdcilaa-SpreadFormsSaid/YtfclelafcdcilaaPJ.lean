/- SpreadForms. -/
import Derived.Test.YtfclelafcdcilaaPI
import Derived.Test.YtfclelafcdcilaaPM
import Derived.Test.YtfclelafcdcilaaP2
set_option linter.unusedVariables false
set_option linter.unusedSimpArgs false
namespace Go.Proofs.Ytfclelafcdcilaa.Dv
open Go Go.Proofs
/-! ### rows of numbers that are alike -/
def intsL (f g : Bool) (l m : List Int) : WLoop := { St := Nat, O := Bool, T := fun i => [(0, .sl f (l.map iD)), (1, .sl g (m.map iD)), (12, .int .i64 (l.map iD).length), (13, .int .i64 i)], ok := fun i => i ≤ l.length ∧ l.length = m.length ∧ l.length ≤ 140737488355328, μ := fun i => l.length - i, m := fun i => decide (l.drop i = m.drop i),
                                                      outs := [{ α := Unit, is := fun o _ => o = true, ex := .exit 0, T := fun _ => [] }, { α := Unit, is := fun o _ => o = false, ex := .ret, T := fun _ => [(4, .bool false)] }] }
theorem intsR (f g : Bool) (l m : List Int) (i : Nat) (hi : (intsL f g l m).ok i) : Tri Try.prog 0 26 (lp Try.f12 4) (tb ((intsL f g l m).T i)) ((intsL f g l m).S i) ((intsL f g l m).q 0 i) := by
  obtain ⟨h1, h2, h3⟩ := hi
  rcases Nat.lt_or_ge i l.length with h | h
  · refine round0 (C := cfgH [] [(14, .t)]) (ctrs_ok ([]) rfl rfl) (by kernel_rfl) (by kernel_rfl) (q := decide ((↑i : Int) < (↑(List.map iD l).length : Int)) = true ∧ ∃ (y : Int), (0 : Int) ≤ (↑i : Int) ∧ (List.map iD l)[(↑i : Int).toNat]? = some (D.int IntKind.i64 y) ∧ ∃ (y_1 : Int), (0 : Int) ≤ (↑i : Int) ∧ (List.map iD m)[(↑i : Int).toNat]? = some (D.int IntKind.i64 y_1) ∧ (decide (y ≠ y_1) = true → ∃ (a : Unit), decide (List.drop i l = List.drop i m) = false ∧ D.bool false = D.bool false) ∧ (decide (y ≠ y_1) = false → inK IntKind.i64 ((↑i : Int) + (1 : Int)) ∧ ∃ (s' : Nat), (s' ≤ l.length ∧ l.length = m.length ∧ l.length ≤ (140737488355328 : Nat)) ∧ (l.length - s').succ ≤ l.length - i ∧ decide (List.drop s' l = List.drop s' m) = decide (List.drop i l = List.drop i m) ∧ D.sl f (List.map iD l) = D.sl f (List.map iD l) ∧ D.sl g (List.map iD m) = D.sl g (List.map iD m) ∧ D.int IntKind.i64 (↑(List.map iD l).length : Int) = D.int IntKind.i64 (↑(List.map iD l).length : Int) ∧ D.int IntKind.i64 (↑s' : Int) = D.int IntKind.i64 ((↑i : Int) + (1 : Int)))) (by kernel_rfl) ?_
    have hm : i < m.length := by omega
    have e1 : l.drop i = l[i] :: l.drop (i + 1) := List.drop_eq_getElem_cons h
    have e2 : m.drop i = m[i] :: m.drop (i + 1) := List.drop_eq_getElem_cons hm
    refine ⟨by simp; omega, l[i], by omega, by simp [h, iD], m[i], by omega, by simp [hm, iD], chks (fun hne => ⟨(), ?_, rfl⟩) fun heq => ⟨by simp only [inK]; omega, i + 1, by omega, by omega, ?_, rfl, rfl, rfl, by simp⟩⟩
    · exact decide_eq_false (by rw [e1, e2]; intro hh; injection hh with h1 _; exact hne h1)
    · rw [e1, e2]; simp only [List.cons.injEq]; simp [Decidable.of_not_not heq]
  · refine round0 (C := cfgH [] [(14, .f)]) (ctrs_ok ([]) rfl rfl) (by kernel_rfl) (by kernel_rfl) (q := decide ((↑i : Int) < (↑(List.map iD l).length : Int)) = false ∧ ∃ (a : Unit), decide (List.drop i l = List.drop i m) = true ∧ True) (by kernel_rfl) ?_
    exact ⟨by simp; omega, (), by rw [List.drop_of_length_le h, List.drop_of_length_le (by omega)]; rfl, trivial⟩
def intsCfg (f g : Bool) (l m : List Int) : WCfg := { cfgOf [] with loops := fun k => match k with | 4 => some ((intsL f g l m).row []) | _ => none }
def intsS (vs : List D) : Option DOut := match vs with | [.sl _ ys, .sl _ zs] => some ⟨(ys = (ys.map dI).map iD ∧ zs = (zs.map dI).map iD) ∧ ys.length ≤ 140737488355328 ∧ zs.length ≤ 140737488355328, .bool (decide (ys.map dI = zs.map dI))⟩ | _ => none
theorem intsN (f g : Bool) (l m : List Int) (h : l.length ≤ 140737488355328) (hm : m.length ≤ 140737488355328) : (decide ((↑(List.map iD l).length : Int) ≠ (↑(List.map iD m).length : Int)) = true → D.bool false = D.bool (decide (l = m))) ∧ (decide ((↑(List.map iD l).length : Int) ≠ (↑(List.map iD m).length : Int)) = false → ∃ (b : Nat), (b ≤ l.length ∧ l.length = m.length ∧ l.length ≤ (140737488355328 : Nat)) ∧ (D.sl f (List.map iD l) = D.sl f (List.map iD l) ∧ D.sl g (List.map iD m) = D.sl g (List.map iD m) ∧ D.int IntKind.i64 (↑(List.map iD l).length : Int) = D.int IntKind.i64 (↑(List.map iD l).length : Int) ∧ D.int IntKind.i64 (↑b : Int) = D.int IntKind.i64 (0 : Int)) ∧ (∀ (a : Unit), decide (List.drop b l = List.drop b m) = true → D.bool true = D.bool (decide (l = m))) ∧ ∀ (a : Unit), decide (List.drop b l = List.drop b m) = false → D.bool false = D.bool (decide (l = m))) := by
  refine chks (fun hne => ?_) fun heq => ?_
  · congr 1; symm; exact decide_eq_false fun h => hne (by rw [h])
  · refine ⟨0, ⟨by omega, by simp at heq; omega, h⟩, by simp, fun _ h => ?_, fun _ h => ?_⟩
    · simp only [List.drop_zero] at h; rw [h]
    · simp only [List.drop_zero] at h; rw [h]
def intsC : Ctr := ⟨12, intsS, by
  intro vs o ho hp
  unfold intsS at ho
  split at ho
  · rename_i f ys g zs
    injection ho with ho; subst ho
    obtain ⟨⟨h1, h2⟩, h3, h4⟩ := hp
    obtain ⟨l, rfl⟩ : ∃ l : List Int, ys = l.map iD := ⟨_, h1⟩
    obtain ⟨m, rfl⟩ : ∃ m : List Int, zs = m.map iD := ⟨_, h2⟩
    simp only [map_dI, List.length_map] at h3 h4 ⊢
    refine dataFunL (C := intsCfg f g l m) (ctrs_ok [] rfl rfl) rfl Try.func12 (by kernel_rfl) (l := [lp Try.f12 4]) (by kernel_rfl) ?_ (by kernel_rfl) (by kernel_rfl) (by kernel_rfl) (intsN f g l m h3 h4)
    intro x hx
    rw [List.mem_singleton.1 hx]
    exact (intsL f g l m).fits 4 [] (by kernel_rfl) rfl (intsR f g l m)
  · cases ho⟩
noncomputable def sfC : List Ctr := [boC, flC, flC', intsC, badC, badC', aw13]
theorem sfN1 (f g : Bool) (rs : List Int) (fac : Int) (c : Cfg) (l : List Rtd) (h : ¬ (rs.length ≤ 100 ∧ l.length ≤ 100 ∧ c.zone.size ≤ 100)) : (decide ((100 : Int) < (↑(List.map iD rs).length : Int)) = true → True ∧ D.bool true = D.bool true) ∧ (decide ((100 : Int) < (↑(List.map iD rs).length : Int)) = false → (decide ((100 : Int) < (↑(List.map rtD l).length : Int)) = true → True ∧ D.bool true = D.bool true) ∧ (decide ((100 : Int) < (↑(List.map rtD l).length : Int)) = false → decide ((100 : Int) < (↑c.zone.size : Int)) = true ∧ True ∧ D.bool true = D.bool true)) := by
  have h1 : (List.map iD rs).length = rs.length := List.length_map ..
  have h2 : (List.map rtD l).length = l.length := List.length_map ..
  refine ⟨fun _ => ⟨trivial, rfl⟩, fun a => ⟨fun _ => ⟨trivial, rfl⟩, fun b => ⟨decide_eq_true ?_, trivial, rfl⟩⟩⟩
  have a := of_decide_eq_false a
  have b := of_decide_eq_false b
  omega
theorem farW_len (fac : Int) (rs : List Int) : (farW fac rs).length ≤ rs.length := by
  unfold farW
  split
  · unfold farV; rw [List.length_map]; exact Nat.le_refl _
  · exact Nat.zero_le _
theorem sfN2 (f g : Bool) (rs : List Int) (fac : Int) (c : Cfg) (l : List Rtd) (hz : c.zone.size ≤ 9223372036854775807) (h : rs.length ≤ 100 ∧ l.length ≤ 100 ∧ c.zone.size ≤ 100) : decide ((100 : Int) < (↑(List.map iD rs).length : Int)) = false ∧ decide ((100 : Int) < (↑(List.map rtD l).length : Int)) = false ∧ decide ((100 : Int) < (↑c.zone.size : Int)) = false ∧ (∃ (l : List Int), List.map iD rs = List.map iD l ∧ l.length ≤ (1000 : Nat)) ∧ (∃ (l : List Int), List.map iD rs = List.map iD l ∧ l.length ≤ (1000 : Nat)) ∧ (∃ (l : List Bool), List.map blD (farW fac (List.map dI (List.map iD rs))) = List.map blD l ∧ List.map blD (farW fac (List.map dI (List.map iD rs))) = List.map blD l ∧ l.length ≤ (1000 : Nat) ∧ True) ∧ true = true ∧ ((D.agg [D.int IntKind.i64 c.interval, D.int IntKind.i64 c.timeout, D.int IntKind.i64 c.jitter, D.int IntKind.i64 c.rise, D.int IntKind.i64 c.fall, D.int IntKind.i64 c.panic, D.int IntKind.i64 c.over, D.int IntKind.i64 c.errors, D.int IntKind.i64 c.sweep, D.int IntKind.i64 c.hosts, D.int IntKind.i64 c.requests, D.int IntKind.i64 c.factor, D.int IntKind.i64 c.fails, D.int IntKind.i64 c.base, D.int IntKind.i64 c.eject, D.bool c.one, D.int IntKind.i64 c.slow, D.int IntKind.i64 c.drain, D.int IntKind.i64 c.hostLimit, D.int IntKind.i64 c.poolLimit, D.int IntKind.i64 c.policy, D.str c.zone, D.bool c.fallback] = D.agg [D.int IntKind.i64 c.interval, D.int IntKind.i64 c.timeout, D.int IntKind.i64 c.jitter, D.int IntKind.i64 c.rise, D.int IntKind.i64 c.fall, D.int IntKind.i64 c.panic, D.int IntKind.i64 c.over, D.int IntKind.i64 c.errors, D.int IntKind.i64 c.sweep, D.int IntKind.i64 c.hosts, D.int IntKind.i64 c.requests, D.int IntKind.i64 c.factor, D.int IntKind.i64 c.fails, D.int IntKind.i64 c.base, D.int IntKind.i64 c.eject, D.bool c.one, D.int IntKind.i64 c.slow, D.int IntKind.i64 c.drain, D.int IntKind.i64 c.hostLimit, D.int IntKind.i64 c.poolLimit, D.int IntKind.i64 c.policy, D.str c.zone, D.bool c.fallback] ∧ c.zone.size ≤ (9223372036854775807 : Nat)) ∧ ∃ (l_1 : List Rtd), List.map rtD l = List.map rtD l_1 ∧ l_1.length ≤ (500 : Nat)) ∧ ((D.agg [D.int IntKind.i64 c.interval, D.int IntKind.i64 c.timeout, D.int IntKind.i64 c.jitter, D.int IntKind.i64 c.rise, D.int IntKind.i64 c.fall, D.int IntKind.i64 c.panic, D.int IntKind.i64 c.over, D.int IntKind.i64 c.errors, D.int IntKind.i64 c.sweep, D.int IntKind.i64 c.hosts, D.int IntKind.i64 c.requests, D.int IntKind.i64 c.factor, D.int IntKind.i64 c.fails, D.int IntKind.i64 c.base, D.int IntKind.i64 c.eject, D.bool c.one, D.int IntKind.i64 c.slow, D.int IntKind.i64 c.drain, D.int IntKind.i64 c.hostLimit, D.int IntKind.i64 c.poolLimit, D.int IntKind.i64 c.policy, D.str c.zone, D.bool c.fallback] = D.agg [D.int IntKind.i64 c.interval, D.int IntKind.i64 c.timeout, D.int IntKind.i64 c.jitter, D.int IntKind.i64 c.rise, D.int IntKind.i64 c.fall, D.int IntKind.i64 c.panic, D.int IntKind.i64 c.over, D.int IntKind.i64 c.errors, D.int IntKind.i64 c.sweep, D.int IntKind.i64 c.hosts, D.int IntKind.i64 c.requests, D.int IntKind.i64 c.factor, D.int IntKind.i64 c.fails, D.int IntKind.i64 c.base, D.int IntKind.i64 c.eject, D.bool c.one, D.int IntKind.i64 c.slow, D.int IntKind.i64 c.drain, D.int IntKind.i64 c.hostLimit, D.int IntKind.i64 c.poolLimit, D.int IntKind.i64 c.policy, D.str c.zone, D.bool c.fallback] ∧ c.zone.size ≤ (9223372036854775807 : Nat)) ∧ ∃ (l_1 : List Rtd), List.map rtD l = List.map rtD l_1 ∧ l_1.length ≤ (500 : Nat)) ∧ ((List.map iD (badV c (List.map dRt (List.map rtD l))) = List.map iD (List.map dI (List.map iD (badV c (List.map dRt (List.map rtD l))))) ∧ List.map iD (badV c (List.map dRt (List.map rtD l))) = List.map iD (List.map dI (List.map iD (badV c (List.map dRt (List.map rtD l)))))) ∧ (List.map iD (badV c (List.map dRt (List.map rtD l)))).length ≤ (140737488355328 : Nat) ∧ (List.map iD (badV c (List.map dRt (List.map rtD l)))).length ≤ (140737488355328 : Nat)) ∧ decide (List.map dI (List.map iD (badV c (List.map dRt (List.map rtD l)))) = List.map dI (List.map iD (badV c (List.map dRt (List.map rtD l))))) = true ∧ True ∧ D.bool true = D.bool true := by
  have h1 : (List.map iD rs).length = rs.length := List.length_map ..
  have h2 : (List.map rtD l).length = l.length := List.length_map ..
  have h3 := badV_len c l
  have h4 : (List.map iD (badV c l)).length = (badV c l).length := List.length_map ..
  have h5 := farW_len fac rs
  rw [map_dRt, map_dI, map_dI]
  exact ⟨decide_eq_false (by omega), decide_eq_false (by omega), decide_eq_false (by omega), ⟨rs, rfl, by omega⟩, ⟨rs, rfl, by omega⟩, ⟨_, rfl, rfl, by omega, trivial⟩, rfl, ⟨⟨rfl, hz⟩, l, rfl, by omega⟩, ⟨⟨rfl, hz⟩, l, rfl, by omega⟩, ⟨⟨rfl, rfl⟩, by omega, by omega⟩, decide_eq_true rfl, trivial, rfl⟩
theorem spreadForms_law {x0 : List D} (o0 : OkL reachBytes [.sl false [.int .i64]] x0) {x1 : List D} (o1 : OkL reachBytes [.int .i64] x1) {x2 : List D} (o2 : OkL reachBytes [.int .i64, .int .i64, .int .i64, .int .i64, .int .i64, .int .i64, .int .i64, .int .i64, .int .i64, .int .i64, .int .i64, .int .i64, .int .i64, .int .i64, .int .i64, .bool, .int .i64, .int .i64, .int .i64, .int .i64, .int .i64, .str, .bool] x2) {x3 : List D} (o3 : OkL reachBytes [.sl true [.int .i64, .int .i64, .int .i64]] x3) : DataFun Try.prog 3 [vOf false x0, vOf false x1, vOf true x2, vOf false x3] (.bool true) := by
  obtain ⟨f, rs, rfl, _, _⟩ := okl1_ints o0
  obtain ⟨fac, rfl, _⟩ := okl1_int o1
  obtain ⟨c, rfl, _, hz⟩ := cfgL_of' o2
  obtain ⟨g, l, rfl, _⟩ := okl1_rated o3
  by_cases h : rs.length ≤ 100 ∧ l.length ≤ 100 ∧ c.zone.size ≤ 100
  · exact dataFun0 (C := cfgH sfC [(12, .f), (17, .f), (22, .f), (31, .t), (40, .t)]) (ctrs_ok sfC rfl rfl) rfl Try.func3 (by kernel_rfl) (by kernel_rfl) (by kernel_rfl) (by kernel_rfl) (by kernel_rfl) (sfN2 f g rs fac c l hz h)
  · exact dataFun0 (C := cfgH sfC [(22, .t)]) (ctrs_ok sfC rfl rfl) rfl Try.func3 (by kernel_rfl) (by kernel_rfl) (by kernel_rfl) (by kernel_rfl) (by kernel_rfl) (sfN1 f g rs fac c l h)
end Go.Proofs.Ytfclelafcdcilaa.Dv
