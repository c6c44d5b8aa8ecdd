/- LoadMore: where nobody of the first priority is free, and some are of a later one, nothing falls to the first. -/
import Derived.Test.YtgibpomhiilehaaND
set_option linter.unusedVariables false
set_option linter.unusedSimpArgs false
namespace Go.Proofs.Ytgibpomhiilehaa.Dv
open Go Go.Proofs
/-! ### the pages' part -/
theorem part_cmp {c : Cfg} (hc : c.nums) {n a : Int} (hn : ¬ n < 1) (ha : ¬ a < 1) (hna : ¬ a < n) : (0 ≤ cmpI (pr n c.over) (pr a 100) → partM c n a = 100) ∧ (¬ 0 ≤ cmpI (pr n c.over) (pr a 100) → partM c n a = min 100 (mdI n c.over a).1) := by
  have h := nums_load hc
  have e1 : pr n c.over = n * c.over := by unfold pr; rw [Int.max_eq_left (by omega), Int.max_eq_left (by omega)]
  have e2 : pr a 100 = a * 100 := by unfold pr; rw [Int.max_eq_left (by omega)]; rfl
  have hq : 100 ≤ n * c.over / a ↔ 100 * a ≤ n * c.over := Int.le_ediv_iff_mul_le (by omega)
  have hm : mdI n c.over a = if 4611686018427387904 < n * c.over / a then (0, false) else (n * c.over / a, true) := by
    unfold mdI
    rw [if_neg (by omega), if_neg (by omega), if_neg (by omega)]
  have hp : partM c n a = if (mdI n c.over a).2 = true then min (mdI n c.over a).1 100 else 100 := by unfold partM; rw [if_neg (by omega)]
  rw [e1, e2, hp, hm]
  unfold cmpI
  generalize n * c.over / a = q at *
  generalize n * c.over = x at *
  constructor
  · intro g
    have hx : a * 100 ≤ x := by
      rcases Int.lt_or_le x (a * 100) with g' | g'
      · rw [if_pos g'] at g; omega
      · exact g'
    by_cases hb : 4611686018427387904 < q
    · rw [if_pos hb]; rfl
    · rw [if_neg hb, if_pos rfl]
      show min q 100 = 100
      omega
  · intro g
    have hx : x < a * 100 := by
      rcases Int.lt_or_le x (a * 100) with g' | g'
      · exact g'
      · exfalso; apply g; rw [if_neg (by omega)]; split <;> omega
    rw [if_neg (show ¬ 4611686018427387904 < q by omega), if_pos rfl]
    show min q 100 = min 100 q
    omega
theorem part'N {c : Cfg} {n a : Int} (hz : c.zone.size ≤ 9223372036854775807) (hn : rI n) (ha : rI a) : (D.agg [D.int IntKind.i64 c.interval, D.int IntKind.i64 c.timeout, D.int IntKind.i64 c.jitter, D.int IntKind.i64 c.rise, D.int IntKind.i64 c.fall, D.int IntKind.i64 c.panic, D.int IntKind.i64 c.over, D.int IntKind.i64 c.errors, D.int IntKind.i64 c.sweep, D.int IntKind.i64 c.hosts, D.int IntKind.i64 c.requests, D.int IntKind.i64 c.factor, D.int IntKind.i64 c.fails, D.int IntKind.i64 c.base, D.int IntKind.i64 c.eject, D.bool c.one, D.int IntKind.i64 c.slow, D.int IntKind.i64 c.drain, D.int IntKind.i64 c.hostLimit, D.int IntKind.i64 c.poolLimit, D.int IntKind.i64 c.policy, D.str c.zone, D.bool c.fallback] = D.agg [D.int IntKind.i64 c.interval, D.int IntKind.i64 c.timeout, D.int IntKind.i64 c.jitter, D.int IntKind.i64 c.rise, D.int IntKind.i64 c.fall, D.int IntKind.i64 c.panic, D.int IntKind.i64 c.over, D.int IntKind.i64 c.errors, D.int IntKind.i64 c.sweep, D.int IntKind.i64 c.hosts, D.int IntKind.i64 c.requests, D.int IntKind.i64 c.factor, D.int IntKind.i64 c.fails, D.int IntKind.i64 c.base, D.int IntKind.i64 c.eject, D.bool c.one, D.int IntKind.i64 c.slow, D.int IntKind.i64 c.drain, D.int IntKind.i64 c.hostLimit, D.int IntKind.i64 c.poolLimit, D.int IntKind.i64 c.policy, D.str c.zone, D.bool c.fallback] ∧ c.zone.size ≤ (9223372036854775807 : Nat)) ∧ (decide (a < (1 : Int)) = true → D.int IntKind.i64 (0 : Int) = D.int IntKind.i64 (partM (held c) n a)) ∧ (decide (a < (1 : Int)) = false → (decide (n < (1 : Int)) = true → D.int IntKind.i64 (0 : Int) = D.int IntKind.i64 (partM (held c) n a)) ∧ (decide (n < (1 : Int)) = false → (decide (a < n) = true → D.int IntKind.i64 (0 : Int) = D.int IntKind.i64 (partM (held c) n a)) ∧ (decide (a < n) = false → (rI n ∧ rI (held c).over ∧ rI a ∧ rI (100 : Int)) ∧ (decide ((0 : Int) ≤ cmpI (pr n (held c).over) (pr a (100 : Int))) = true → D.int IntKind.i64 (100 : Int) = D.int IntKind.i64 (partM (held c) n a)) ∧ (decide ((0 : Int) ≤ cmpI (pr n (held c).over) (pr a (100 : Int))) = false → (rI n ∧ rI (held c).over ∧ rI a) ∧ D.int IntKind.i64 (min (100 : Int) (mdI n (held c).over a).fst) = D.int IntKind.i64 (partM (held c) n a))))) := by
  have hr := (held_rI c).2
  refine ⟨⟨rfl, hz⟩, fun h1 => ?_, fun h1 => ⟨fun h2 => ?_, fun h2 => ⟨fun h3 => ?_, fun h3 => ?_⟩⟩⟩
  · have h1 := of_decide_eq_true h1
    unfold partM; rw [if_pos (.inl h1)]
  · have h2 := of_decide_eq_true h2
    unfold partM; rw [if_pos (.inr (.inl h2))]
  · have h3 := of_decide_eq_true h3
    unfold partM; rw [if_pos (.inr (.inr h3))]
  · have hp := part_cmp (held_nums c) (of_decide_eq_false h2) (of_decide_eq_false h1) (of_decide_eq_false h3)
    exact ⟨⟨hn, hr, ha, by unfold rI; omega⟩, fun g => by rw [hp.1 (of_decide_eq_true g)], fun g => ⟨⟨hn, hr, ha⟩, by rw [hp.2 (of_decide_eq_false g)]⟩⟩
def partC' : Ctr := ⟨35, partS, by
  intro vs o ho hp
  unfold partS at ho
  split at ho
  · rename_i cs n a; injection ho with ho; subst ho
    obtain ⟨⟨h1, h2⟩, h3, h4⟩ := hp
    simp only at h1 h2 ⊢
    rw [h1]
    generalize dCfg (.agg _) = c at *
    exact dataFun0 (C := aCfg 0 [heldC, cmpC', mdC'] [] []) (ctrs_ok [heldC, cmpC', mdC'] rfl rfl) rfl Try.func35 (by kernel_rfl) (by kernel_rfl) (by kernel_rfl) (by kernel_rfl) (by kernel_rfl) (part'N h2 h3 h4)
  · cases ho⟩
noncomputable def lmC : List Ctr := [l16C, aw18, mayCfgC', ldC, gambC, gagpC, gafrC, partC']
/-- Is some later one's part more than nothing? -/
def othK (c : Cfg) (cs : List Cnt) (k : Nat) : Bool := ((cs.drop 1).take k).any fun x => decide (0 < partM c x.2.2 x.2.1)
theorem othK_succ {c : Cfg} {cs : List Cnt} {k : Nat} (h : k + 1 < cs.length) : othK c cs (k + 1) = (othK c cs k || decide (0 < partM c cs[k + 1].2.2 cs[k + 1].2.1)) := by
  unfold othK
  have e : (cs.drop 1)[k]? = some cs[k + 1] := by rw [List.getElem?_drop, Nat.add_comm, List.getElem?_eq_getElem h]
  rw [List.take_add_one, e, List.any_append]
  simp
def lmA (f g g6 : Bool) (c : Cfg) (l : List Stat) (S : List Shr) (G : List Stat) (n : Nat) (oth : Nat → Bool) (p : Prop) : WLoop :=
  { St := Nat
    O := Unit
    T := fun k => [(1, .sl f (l.map statD)), (2, .ptr 0 0 0), (5, .sl g (S.map shD)), (6, .sl g6 (G.map statD)), (7, .bool (oth k)), (36, .sl g ((S.drop 1).map shD)), (37, .int .i64 ((S.drop 1).map shD).length), (38, .int .i64 k)]
    S := fun _ => [some (.row .own 23 [c.toD])]
    ok := fun k => k ≤ n ∧ p
    μ := fun k => n - k
    m := fun _ => ()
    src := [(0, true)]
    outs := [{ α := Unit, is := fun _ _ => True, ex := .exit 0, T := fun _ => [(5, .sl g (S.map shD)), (6, .sl g6 (G.map statD)), (7, .bool (oth n))] }] }
theorem lmAR (f g g6 : Bool) (c : Cfg) (l : List Stat) (S : List Shr) (G : List Stat) (n : Nat) (oth : Nat → Bool) (p : Prop) (hS : S = sharesM c (cnts (resMb l))) (hn' : n = (cnts (resMb l)).length - 1) (ho : oth = othK c (cnts (resMb l))) (hp' : p → l.length ≤ 100 ∧ (∀ t ∈ l, t.small) ∧ mayCfg c = true ∧ c.zone.size ≤ 9223372036854775807) (k : Nat) (hs : (lmA f g g6 c l S G n oth p).ok k) : Tri Try.prog 0 103 (lp Try.f10 9) (tb ((lmA f g g6 c l S G n oth p).T k)) ((lmA f g g6 c l S G n oth p).S k) ((lmA f g g6 c l S G n oth p).q 0 k) := by
  obtain ⟨h1, hp0⟩ := hs
  refine round0 (C := aCfg 0 lmC [] []) (ctrs_ok (lmC) rfl rfl) (by kernel_rfl) (by kernel_rfl) (q := (decide ((↑k : Int) < (↑(List.map shD (List.drop (1 : Nat) S)).length : Int)) = true → ∃ (y : Int × Int), (0 : Int) ≤ (↑k : Int) ∧ (List.map shD (List.drop (1 : Nat) S))[(↑k : Int).toNat]? = some (D.agg [D.int IntKind.i64 y.fst, D.int IntKind.i64 y.snd]) ∧ (∃ (l_1 : List Stat), List.map statD l = List.map statD l_1 ∧ l_1.length ≤ (1000 : Nat) ∧ ∀ (t : Stat), List.Mem t l_1 → t.small) ∧ (∃ (l_1 : List Stat), List.map statD (gamb (List.map dStat (List.map statD l))) = List.map statD l_1 ∧ l_1.length ≤ (1000 : Nat) ∧ ∀ (t : Stat), List.Mem t l_1 → t.small) ∧ (oth k = true → inK IntKind.i64 ((↑k : Int) + (1 : Int)) ∧ ∃ (s' : Nat), (s' ≤ n ∧ p) ∧ (n - s').succ ≤ n - k ∧ () = () ∧ (D.sl f (List.map statD l) = D.sl f (List.map statD l) ∧ D.ptr (0 : Nat) (0 : Nat) (0 : Nat) = D.ptr (0 : Nat) (0 : Nat) (0 : Nat) ∧ D.sl g (List.map shD S) = D.sl g (List.map shD S) ∧ D.sl g6 (List.map statD G) = D.sl g6 (List.map statD G) ∧ D.bool (oth s') = D.bool true ∧ D.sl g (List.map shD (List.drop (1 : Nat) S)) = D.sl g (List.map shD (List.drop (1 : Nat) S)) ∧ D.int IntKind.i64 (↑(List.map shD (List.drop (1 : Nat) S)).length : Int) = D.int IntKind.i64 (↑(List.map shD (List.drop (1 : Nat) S)).length : Int) ∧ D.int IntKind.i64 (↑s' : Int) = D.int IntKind.i64 ((↑k : Int) + (1 : Int))) ∧ (some (Ob.row St.own (23 : Nat) [D.agg [D.int IntKind.i64 c.interval, D.int IntKind.i64 c.timeout, D.int IntKind.i64 c.jitter, D.int IntKind.i64 c.rise, D.int IntKind.i64 c.fall, D.int IntKind.i64 c.panic, D.int IntKind.i64 c.over, D.int IntKind.i64 c.errors, D.int IntKind.i64 c.sweep, D.int IntKind.i64 c.hosts, D.int IntKind.i64 c.requests, D.int IntKind.i64 c.factor, D.int IntKind.i64 c.fails, D.int IntKind.i64 c.base, D.int IntKind.i64 c.eject, D.bool c.one, D.int IntKind.i64 c.slow, D.int IntKind.i64 c.drain, D.int IntKind.i64 c.hostLimit, D.int IntKind.i64 c.poolLimit, D.int IntKind.i64 c.policy, D.str c.zone, D.bool c.fallback]]) = none ∨ some (Ob.row St.own (23 : Nat) [D.agg [D.int IntKind.i64 c.interval, D.int IntKind.i64 c.timeout, D.int IntKind.i64 c.jitter, D.int IntKind.i64 c.rise, D.int IntKind.i64 c.fall, D.int IntKind.i64 c.panic, D.int IntKind.i64 c.over, D.int IntKind.i64 c.errors, D.int IntKind.i64 c.sweep, D.int IntKind.i64 c.hosts, D.int IntKind.i64 c.requests, D.int IntKind.i64 c.factor, D.int IntKind.i64 c.fails, D.int IntKind.i64 c.base, D.int IntKind.i64 c.eject, D.bool c.one, D.int IntKind.i64 c.slow, D.int IntKind.i64 c.drain, D.int IntKind.i64 c.hostLimit, D.int IntKind.i64 c.poolLimit, D.int IntKind.i64 c.policy, D.str c.zone, D.bool c.fallback]]) = some (Ob.row St.own (23 : Nat) [D.agg [D.int IntKind.i64 c.interval, D.int IntKind.i64 c.timeout, D.int IntKind.i64 c.jitter, D.int IntKind.i64 c.rise, D.int IntKind.i64 c.fall, D.int IntKind.i64 c.panic, D.int IntKind.i64 c.over, D.int IntKind.i64 c.errors, D.int IntKind.i64 c.sweep, D.int IntKind.i64 c.hosts, D.int IntKind.i64 c.requests, D.int IntKind.i64 c.factor, D.int IntKind.i64 c.fails, D.int IntKind.i64 c.base, D.int IntKind.i64 c.eject, D.bool c.one, D.int IntKind.i64 c.slow, D.int IntKind.i64 c.drain, D.int IntKind.i64 c.hostLimit, D.int IntKind.i64 c.poolLimit, D.int IntKind.i64 c.policy, D.str c.zone, D.bool c.fallback]]) ∧ true = true)) ∧ (oth k = false → (∃ (l_1 : List Stat), List.map statD (gagp y.fst (List.map dStat (List.map statD (gamb (List.map dStat (List.map statD l)))))) = List.map statD l_1 ∧ l_1.length ≤ (1000 : Nat) ∧ ∀ (t : Stat), List.Mem t l_1 → t.small) ∧ ((D.agg [D.int IntKind.i64 c.interval, D.int IntKind.i64 c.timeout, D.int IntKind.i64 c.jitter, D.int IntKind.i64 c.rise, D.int IntKind.i64 c.fall, D.int IntKind.i64 c.panic, D.int IntKind.i64 c.over, D.int IntKind.i64 c.errors, D.int IntKind.i64 c.sweep, D.int IntKind.i64 c.hosts, D.int IntKind.i64 c.requests, D.int IntKind.i64 c.factor, D.int IntKind.i64 c.fails, D.int IntKind.i64 c.base, D.int IntKind.i64 c.eject, D.bool c.one, D.int IntKind.i64 c.slow, D.int IntKind.i64 c.drain, D.int IntKind.i64 c.hostLimit, D.int IntKind.i64 c.poolLimit, D.int IntKind.i64 c.policy, D.str c.zone, D.bool c.fallback] = D.agg [D.int IntKind.i64 c.interval, D.int IntKind.i64 c.timeout, D.int IntKind.i64 c.jitter, D.int IntKind.i64 c.rise, D.int IntKind.i64 c.fall, D.int IntKind.i64 c.panic, D.int IntKind.i64 c.over, D.int IntKind.i64 c.errors, D.int IntKind.i64 c.sweep, D.int IntKind.i64 c.hosts, D.int IntKind.i64 c.requests, D.int IntKind.i64 c.factor, D.int IntKind.i64 c.fails, D.int IntKind.i64 c.base, D.int IntKind.i64 c.eject, D.bool c.one, D.int IntKind.i64 c.slow, D.int IntKind.i64 c.drain, D.int IntKind.i64 c.hostLimit, D.int IntKind.i64 c.poolLimit, D.int IntKind.i64 c.policy, D.str c.zone, D.bool c.fallback] ∧ c.zone.size ≤ (9223372036854775807 : Nat)) ∧ rI (↑(List.map statD (gafr (List.map dStat (List.map statD (gagp y.fst (List.map dStat (List.map statD (gamb (List.map dStat (List.map statD l)))))))))).length : Int) ∧ rI (↑(List.map statD (gagp y.fst (List.map dStat (List.map statD (gamb (List.map dStat (List.map statD l))))))).length : Int)) ∧ inK IntKind.i64 ((↑k : Int) + (1 : Int)) ∧ ∃ (s' : Nat), (s' ≤ n ∧ p) ∧ (n - s').succ ≤ n - k ∧ () = () ∧ (D.sl f (List.map statD l) = D.sl f (List.map statD l) ∧ D.ptr (0 : Nat) (0 : Nat) (0 : Nat) = D.ptr (0 : Nat) (0 : Nat) (0 : Nat) ∧ D.sl g (List.map shD S) = D.sl g (List.map shD S) ∧ D.sl g6 (List.map statD G) = D.sl g6 (List.map statD G) ∧ D.bool (oth s') = D.bool (decide ((0 : Int) < partM (held c) (↑(List.map statD (gafr (List.map dStat (List.map statD (gagp y.fst (List.map dStat (List.map statD (gamb (List.map dStat (List.map statD l)))))))))).length : Int) (↑(List.map statD (gagp y.fst (List.map dStat (List.map statD (gamb (List.map dStat (List.map statD l))))))).length : Int))) ∧ D.sl g (List.map shD (List.drop (1 : Nat) S)) = D.sl g (List.map shD (List.drop (1 : Nat) S)) ∧ D.int IntKind.i64 (↑(List.map shD (List.drop (1 : Nat) S)).length : Int) = D.int IntKind.i64 (↑(List.map shD (List.drop (1 : Nat) S)).length : Int) ∧ D.int IntKind.i64 (↑s' : Int) = D.int IntKind.i64 ((↑k : Int) + (1 : Int))) ∧ (some (Ob.row St.own (23 : Nat) [D.agg [D.int IntKind.i64 c.interval, D.int IntKind.i64 c.timeout, D.int IntKind.i64 c.jitter, D.int IntKind.i64 c.rise, D.int IntKind.i64 c.fall, D.int IntKind.i64 c.panic, D.int IntKind.i64 c.over, D.int IntKind.i64 c.errors, D.int IntKind.i64 c.sweep, D.int IntKind.i64 c.hosts, D.int IntKind.i64 c.requests, D.int IntKind.i64 c.factor, D.int IntKind.i64 c.fails, D.int IntKind.i64 c.base, D.int IntKind.i64 c.eject, D.bool c.one, D.int IntKind.i64 c.slow, D.int IntKind.i64 c.drain, D.int IntKind.i64 c.hostLimit, D.int IntKind.i64 c.poolLimit, D.int IntKind.i64 c.policy, D.str c.zone, D.bool c.fallback]]) = none ∨ some (Ob.row St.own (23 : Nat) [D.agg [D.int IntKind.i64 c.interval, D.int IntKind.i64 c.timeout, D.int IntKind.i64 c.jitter, D.int IntKind.i64 c.rise, D.int IntKind.i64 c.fall, D.int IntKind.i64 c.panic, D.int IntKind.i64 c.over, D.int IntKind.i64 c.errors, D.int IntKind.i64 c.sweep, D.int IntKind.i64 c.hosts, D.int IntKind.i64 c.requests, D.int IntKind.i64 c.factor, D.int IntKind.i64 c.fails, D.int IntKind.i64 c.base, D.int IntKind.i64 c.eject, D.bool c.one, D.int IntKind.i64 c.slow, D.int IntKind.i64 c.drain, D.int IntKind.i64 c.hostLimit, D.int IntKind.i64 c.poolLimit, D.int IntKind.i64 c.policy, D.str c.zone, D.bool c.fallback]]) = some (Ob.row St.own (23 : Nat) [D.agg [D.int IntKind.i64 c.interval, D.int IntKind.i64 c.timeout, D.int IntKind.i64 c.jitter, D.int IntKind.i64 c.rise, D.int IntKind.i64 c.fall, D.int IntKind.i64 c.panic, D.int IntKind.i64 c.over, D.int IntKind.i64 c.errors, D.int IntKind.i64 c.sweep, D.int IntKind.i64 c.hosts, D.int IntKind.i64 c.requests, D.int IntKind.i64 c.factor, D.int IntKind.i64 c.fails, D.int IntKind.i64 c.base, D.int IntKind.i64 c.eject, D.bool c.one, D.int IntKind.i64 c.slow, D.int IntKind.i64 c.drain, D.int IntKind.i64 c.hostLimit, D.int IntKind.i64 c.poolLimit, D.int IntKind.i64 c.policy, D.str c.zone, D.bool c.fallback]]) ∧ true = true))) ∧ (decide ((↑k : Int) < (↑(List.map shD (List.drop (1 : Nat) S)).length : Int)) = false → ∃ (a : Unit), True ∧ D.sl g (List.map shD S) = D.sl g (List.map shD S) ∧ D.sl g6 (List.map statD G) = D.sl g6 (List.map statD G) ∧ D.bool (oth n) = D.bool (oth k))) (by kernel_rfl) ?_
  obtain ⟨h2, h3, h4, h5⟩ := hp' hp0
  subst hS hn' ho
  have hc := lmay_nums h4
  have hml : (resMb l).length ≤ 100 := Nat.le_trans (resMb_len l) h2
  have hr := cnts_range (ms := resMb l) (by omega)
  have hok := cnts_ok (resMb l)
  have hcl := cnts_len (resMb l)
  have hsm : ∀ t ∈ gamb l, t.small := gamb_small h3
  have hgl : (gamb l).length ≤ 1000 := Nat.le_trans (gamb_len l) (by omega)
  have hSl : (sharesM c (cnts (resMb l))).length = (cnts (resMb l)).length := tab_len _ _
  have hlen : ((List.map shD (List.drop 1 (sharesM c (cnts (resMb l))))).length : Int) = ((cnts (resMb l)).length - 1 : Nat) := by rw [List.length_map, List.length_drop, hSl]
  rw [hlen, map_dStat, lheld_may h4]
  have cfgP : [c.toD].all D.pure = true := rfl
  refine ⟨fun hlt => ?_, fun hge => ?_⟩
  · have hlt : k + 1 < (cnts (resMb l)).length := by have := of_decide_eq_true hlt; omega
    have hget : (List.map shD (List.drop 1 (sharesM c (cnts (resMb l)))))[((k : Nat) : Int).toNat]? = some (.agg [.int .i64 (prI (cnts (resMb l)) (k + 1)), .int .i64 (shPart c (cnts (resMb l)) (k + 1))]) := by
      rw [Int.toNat_natCast, List.getElem?_map, List.getElem?_drop, Nat.add_comm]
      unfold sharesM
      rw [tab_get _ hlt]; rfl
    obtain ⟨e1, e2, e3, e4⟩ := hok.ent _ (List.getElem_mem hlt)
    obtain ⟨r1, r2, r3⟩ := hr _ (List.getElem_mem hlt)
    have hos := othK_succ (c := c) hlt
    have hA : ((List.map statD (gagp (prI (cnts (resMb l)) (k + 1)) (gamb l))).length : Int) = (cnts (resMb l))[k + 1].2.1 := by rw [List.length_map, e2, ← prI_get hlt]; exact group_len _ l
    have hF : ((List.map statD (gafr (gagp (prI (cnts (resMb l)) (k + 1)) (gamb l)))).length : Int) = (cnts (resMb l))[k + 1].2.2 := by rw [List.length_map, e3, ← prI_get hlt]; exact frees_len _ l
    refine ⟨(prI (cnts (resMb l)) (k + 1), shPart c (cnts (resMb l)) (k + 1)), by omega, hget, ⟨l, rfl, by omega, h3⟩, ⟨gamb l, rfl, hgl, hsm⟩, fun ho => ⟨ink (by omega), k + 1, ⟨by omega, hp0⟩, by omega, rfl, ?_, .inr ⟨rfl, cfgP⟩⟩, fun ho => ?_⟩
    · rw [ho, Bool.true_or] at hos
      repeat' apply And.intro
      all_goals first
        | rfl
        | exact congrArg _ hos
    · rw [map_dStat, map_dStat]
      rw [ho, Bool.false_or] at hos
      refine ⟨⟨_, rfl, Nat.le_trans (gagp_len _ _) hgl, gagp_small _ hsm⟩, ⟨⟨by trivial, h5⟩, ?_, ?_⟩, ink (by omega), k + 1, ⟨by omega, hp0⟩, by omega, rfl, ?_, .inr ⟨rfl, cfgP⟩⟩
      · rw [hF]; unfold rI; omega
      · rw [hA]; unfold rI; omega
      · rw [hF, hA]
        repeat' apply And.intro
        all_goals first
          | rfl
          | exact congrArg _ hos
  · have hge : k = (cnts (resMb l)).length - 1 := by have := of_decide_eq_false hge; omega
    subst hge
    refine ⟨(), trivial, ?_⟩
    repeat' apply And.intro
    all_goals rfl
noncomputable def lmCfg (f : Bool) (c : Cfg) (l : List Stat) : WCfg := { aCfg 0 lmC [] [] with loops := fun k => match k with
  | 9 => some ((lmA f (cnts (resMb l)).isEmpty (gagp (prI (cnts (resMb l)) 0) (gamb l)).isEmpty c l (sharesM c (cnts (resMb l))) (gagp (prI (cnts (resMb l)) 0) (gamb l)) ((cnts (resMb l)).length - 1) (othK c (cnts (resMb l))) (l.length ≤ 100 ∧ (∀ t ∈ l, t.small) ∧ mayCfg c = true ∧ c.zone.size ≤ 9223372036854775807)).row [(0, true)])
  | _ => none }
theorem lmN (f : Bool) (c : Cfg) (l : List Stat) (h1 : l.length ≤ 1000000000000) (h2 : ∀ t ∈ l, t.small) (hz : c.zone.size ≤ 9223372036854775807) : (∃ (l_1 : List Stat), List.map statD l = List.map statD l_1 ∧ l_1.length ≤ (1000000000000 : Nat) ∧ ∀ (t : Stat), List.Mem t l_1 → t.small) ∧ (decide ((0 : Int) < lit16 (List.map dStat (List.map statD l)) (0 : Nat)) = true → True ∧ D.bool true = D.bool true) ∧ (decide ((0 : Int) < lit16 (List.map dStat (List.map statD l)) (0 : Nat)) = false → (D.agg [D.int IntKind.i64 c.interval, D.int IntKind.i64 c.timeout, D.int IntKind.i64 c.jitter, D.int IntKind.i64 c.rise, D.int IntKind.i64 c.fall, D.int IntKind.i64 c.panic, D.int IntKind.i64 c.over, D.int IntKind.i64 c.errors, D.int IntKind.i64 c.sweep, D.int IntKind.i64 c.hosts, D.int IntKind.i64 c.requests, D.int IntKind.i64 c.factor, D.int IntKind.i64 c.fails, D.int IntKind.i64 c.base, D.int IntKind.i64 c.eject, D.bool c.one, D.int IntKind.i64 c.slow, D.int IntKind.i64 c.drain, D.int IntKind.i64 c.hostLimit, D.int IntKind.i64 c.poolLimit, D.int IntKind.i64 c.policy, D.str c.zone, D.bool c.fallback] = D.agg [D.int IntKind.i64 c.interval, D.int IntKind.i64 c.timeout, D.int IntKind.i64 c.jitter, D.int IntKind.i64 c.rise, D.int IntKind.i64 c.fall, D.int IntKind.i64 c.panic, D.int IntKind.i64 c.over, D.int IntKind.i64 c.errors, D.int IntKind.i64 c.sweep, D.int IntKind.i64 c.hosts, D.int IntKind.i64 c.requests, D.int IntKind.i64 c.factor, D.int IntKind.i64 c.fails, D.int IntKind.i64 c.base, D.int IntKind.i64 c.eject, D.bool c.one, D.int IntKind.i64 c.slow, D.int IntKind.i64 c.drain, D.int IntKind.i64 c.hostLimit, D.int IntKind.i64 c.poolLimit, D.int IntKind.i64 c.policy, D.str c.zone, D.bool c.fallback] ∧ c.zone.size ≤ (9223372036854775807 : Nat)) ∧ ((!mayCfg c) = true → True ∧ D.bool true = D.bool true) ∧ ((!mayCfg c) = false → ((D.agg [D.int IntKind.i64 c.interval, D.int IntKind.i64 c.timeout, D.int IntKind.i64 c.jitter, D.int IntKind.i64 c.rise, D.int IntKind.i64 c.fall, D.int IntKind.i64 c.panic, D.int IntKind.i64 c.over, D.int IntKind.i64 c.errors, D.int IntKind.i64 c.sweep, D.int IntKind.i64 c.hosts, D.int IntKind.i64 c.requests, D.int IntKind.i64 c.factor, D.int IntKind.i64 c.fails, D.int IntKind.i64 c.base, D.int IntKind.i64 c.eject, D.bool c.one, D.int IntKind.i64 c.slow, D.int IntKind.i64 c.drain, D.int IntKind.i64 c.hostLimit, D.int IntKind.i64 c.poolLimit, D.int IntKind.i64 c.policy, D.str c.zone, D.bool c.fallback] = D.agg [D.int IntKind.i64 c.interval, D.int IntKind.i64 c.timeout, D.int IntKind.i64 c.jitter, D.int IntKind.i64 c.rise, D.int IntKind.i64 c.fall, D.int IntKind.i64 c.panic, D.int IntKind.i64 c.over, D.int IntKind.i64 c.errors, D.int IntKind.i64 c.sweep, D.int IntKind.i64 c.hosts, D.int IntKind.i64 c.requests, D.int IntKind.i64 c.factor, D.int IntKind.i64 c.fails, D.int IntKind.i64 c.base, D.int IntKind.i64 c.eject, D.bool c.one, D.int IntKind.i64 c.slow, D.int IntKind.i64 c.drain, D.int IntKind.i64 c.hostLimit, D.int IntKind.i64 c.poolLimit, D.int IntKind.i64 c.policy, D.str c.zone, D.bool c.fallback] ∧ c.zone.size ≤ (9223372036854775807 : Nat)) ∧ mayCfg c = true ∧ ∃ (l_1 : List Stat), List.map statD l = List.map statD l_1 ∧ l_1.length ≤ (100 : Nat) ∧ ∀ (t : Stat), List.Mem t l_1 → t.small) ∧ (decide ((↑(List.map shD (sharesM c (cnts (resMb (List.map dStat (List.map statD l)))))).length : Int) = (0 : Int)) = true → True ∧ D.bool true = D.bool true) ∧ (decide ((↑(List.map shD (sharesM c (cnts (resMb (List.map dStat (List.map statD l)))))).length : Int) = (0 : Int)) = false → (∃ (l_1 : List Stat), List.map statD l = List.map statD l_1 ∧ l_1.length ≤ (1000 : Nat) ∧ ∀ (t : Stat), List.Mem t l_1 → t.small) ∧ ∃ (y : Int × Int), (0 : Int) ≤ (0 : Int) ∧ (List.map shD (sharesM c (cnts (resMb (List.map dStat (List.map statD l))))))[(0 : Nat)]? = some (D.agg [D.int IntKind.i64 y.fst, D.int IntKind.i64 y.snd]) ∧ (∃ (l_1 : List Stat), List.map statD (gamb (List.map dStat (List.map statD l))) = List.map statD l_1 ∧ l_1.length ≤ (1000 : Nat) ∧ ∀ (t : Stat), List.Mem t l_1 → t.small) ∧ (0 : Int) ≤ (1 : Int) ∧ (1 : Nat) ≤ (List.map shD (sharesM c (cnts (resMb (List.map dStat (List.map statD l)))))).length ∧ (List.map shD (sharesM c (cnts (resMb (List.map dStat (List.map statD l)))))).length ≤ (List.map shD (sharesM c (cnts (resMb (List.map dStat (List.map statD l)))))).length ∧ ((List.drop (1 : Nat) (List.take (List.map shD (sharesM c (cnts (resMb (List.map dStat (List.map statD l)))))).length (List.map shD (sharesM c (cnts (resMb (List.map dStat (List.map statD l)))))))).all fun (y : D) => y.cells.length == (ti Try.prog (65 : Nat)).sz) = true ∧ ∃ (b : Nat), (b ≤ (cnts (resMb l)).length - (1 : Nat) ∧ l.length ≤ (100 : Nat) ∧ (∀ (t : Stat), List.Mem t l → t.small) ∧ mayCfg c = true ∧ c.zone.size ≤ (9223372036854775807 : Nat)) ∧ ((D.sl f (List.map statD l) = D.sl f (List.map statD l) ∧ D.ptr (0 : Nat) (0 : Nat) (0 : Nat) = D.ptr (0 : Nat) (0 : Nat) (0 : Nat) ∧ D.sl (cnts (resMb l)).isEmpty (List.map shD (sharesM c (cnts (resMb l)))) = D.sl (cnts (resMb (List.map dStat (List.map statD l)))).isEmpty (List.map shD (sharesM c (cnts (resMb (List.map dStat (List.map statD l)))))) ∧ D.sl (gagp (prI (cnts (resMb l)) (0 : Nat)) (gamb l)).isEmpty (List.map statD (gagp (prI (cnts (resMb l)) (0 : Nat)) (gamb l))) = D.sl (gagp y.fst (List.map dStat (List.map statD (gamb (List.map dStat (List.map statD l)))))).isEmpty (List.map statD (gagp y.fst (List.map dStat (List.map statD (gamb (List.map dStat (List.map statD l))))))) ∧ D.bool (othK c (cnts (resMb l)) b) = D.bool false ∧ D.sl (cnts (resMb l)).isEmpty (List.map shD (List.drop (1 : Nat) (sharesM c (cnts (resMb l))))) = D.sl ((cnts (resMb (List.map dStat (List.map statD l)))).isEmpty && decide ((List.map shD (sharesM c (cnts (resMb (List.map dStat (List.map statD l)))))).length = (List.map shD (sharesM c (cnts (resMb (List.map dStat (List.map statD l)))))).length)) (List.drop (1 : Nat) (List.take (List.map shD (sharesM c (cnts (resMb (List.map dStat (List.map statD l)))))).length (List.map shD (sharesM c (cnts (resMb (List.map dStat (List.map statD l)))))))) ∧ D.int IntKind.i64 (↑(List.map shD (List.drop (1 : Nat) (sharesM c (cnts (resMb l))))).length : Int) = D.int IntKind.i64 (↑(List.drop (1 : Nat) (List.take (List.map shD (sharesM c (cnts (resMb (List.map dStat (List.map statD l)))))).length (List.map shD (sharesM c (cnts (resMb (List.map dStat (List.map statD l)))))))).length : Int) ∧ D.int IntKind.i64 (↑b : Int) = D.int IntKind.i64 (0 : Int)) ∧ (some (Ob.row St.own (23 : Nat) [D.agg [D.int IntKind.i64 c.interval, D.int IntKind.i64 c.timeout, D.int IntKind.i64 c.jitter, D.int IntKind.i64 c.rise, D.int IntKind.i64 c.fall, D.int IntKind.i64 c.panic, D.int IntKind.i64 c.over, D.int IntKind.i64 c.errors, D.int IntKind.i64 c.sweep, D.int IntKind.i64 c.hosts, D.int IntKind.i64 c.requests, D.int IntKind.i64 c.factor, D.int IntKind.i64 c.fails, D.int IntKind.i64 c.base, D.int IntKind.i64 c.eject, D.bool c.one, D.int IntKind.i64 c.slow, D.int IntKind.i64 c.drain, D.int IntKind.i64 c.hostLimit, D.int IntKind.i64 c.poolLimit, D.int IntKind.i64 c.policy, D.str c.zone, D.bool c.fallback]]) = none ∨ some (Ob.row St.own (23 : Nat) [D.agg [D.int IntKind.i64 c.interval, D.int IntKind.i64 c.timeout, D.int IntKind.i64 c.jitter, D.int IntKind.i64 c.rise, D.int IntKind.i64 c.fall, D.int IntKind.i64 c.panic, D.int IntKind.i64 c.over, D.int IntKind.i64 c.errors, D.int IntKind.i64 c.sweep, D.int IntKind.i64 c.hosts, D.int IntKind.i64 c.requests, D.int IntKind.i64 c.factor, D.int IntKind.i64 c.fails, D.int IntKind.i64 c.base, D.int IntKind.i64 c.eject, D.bool c.one, D.int IntKind.i64 c.slow, D.int IntKind.i64 c.drain, D.int IntKind.i64 c.hostLimit, D.int IntKind.i64 c.poolLimit, D.int IntKind.i64 c.policy, D.str c.zone, D.bool c.fallback]]) = some (Ob.row St.own (23 : Nat) [D.agg [D.int IntKind.i64 c.interval, D.int IntKind.i64 c.timeout, D.int IntKind.i64 c.jitter, D.int IntKind.i64 c.rise, D.int IntKind.i64 c.fall, D.int IntKind.i64 c.panic, D.int IntKind.i64 c.over, D.int IntKind.i64 c.errors, D.int IntKind.i64 c.sweep, D.int IntKind.i64 c.hosts, D.int IntKind.i64 c.requests, D.int IntKind.i64 c.factor, D.int IntKind.i64 c.fails, D.int IntKind.i64 c.base, D.int IntKind.i64 c.eject, D.bool c.one, D.int IntKind.i64 c.slow, D.int IntKind.i64 c.drain, D.int IntKind.i64 c.hostLimit, D.int IntKind.i64 c.poolLimit, D.int IntKind.i64 c.policy, D.str c.zone, D.bool c.fallback]]) ∧ true = true)) ∧ ∀ (a : Unit), True → (∃ (l_1 : List Stat), List.map statD (gagp (prI (cnts (resMb l)) (0 : Nat)) (gamb l)) = List.map statD l_1 ∧ l_1.length ≤ (1000 : Nat) ∧ ∀ (t : Stat), List.Mem t l_1 → t.small) ∧ (decide ((↑(List.map statD (gafr (List.map dStat (List.map statD (gagp (prI (cnts (resMb l)) (0 : Nat)) (gamb l)))))).length : Int) = (0 : Int)) = true → (othK c (cnts (resMb l)) ((cnts (resMb l)).length - (1 : Nat)) = true → ∃ (y : Int × Int), (0 : Int) ≤ (0 : Int) ∧ (List.map shD (sharesM c (cnts (resMb l))))[(0 : Nat)]? = some (D.agg [D.int IntKind.i64 y.fst, D.int IntKind.i64 y.snd]) ∧ (decide (y.snd ≠ (0 : Int)) = true → D.bool false = D.bool true) ∧ (decide (y.snd ≠ (0 : Int)) = false → (decide ((↑(List.map statD (gafr (List.map dStat (List.map statD (gagp (prI (cnts (resMb l)) (0 : Nat)) (gamb l)))))).length : Int) = (0 : Int)) = true → ((!othK c (cnts (resMb l)) ((cnts (resMb l)).length - (1 : Nat))) = true → ∃ (y : Int × Int), (0 : Int) ≤ (0 : Int) ∧ (List.map shD (sharesM c (cnts (resMb l))))[(0 : Nat)]? = some (D.agg [D.int IntKind.i64 y.fst, D.int IntKind.i64 y.snd]) ∧ (decide (y.snd ≠ (100 : Int)) = true → D.bool false = D.bool true) ∧ (decide (y.snd ≠ (100 : Int)) = false → (decide ((↑(List.map statD (gafr (List.map dStat (List.map statD (gagp (prI (cnts (resMb l)) (0 : Nat)) (gamb l)))))).length : Int) < (↑(List.map statD (gagp (prI (cnts (resMb l)) (0 : Nat)) (gamb l))).length : Int)) = true → True ∧ D.bool true = D.bool true) ∧ (decide ((↑(List.map statD (gafr (List.map dStat (List.map statD (gagp (prI (cnts (resMb l)) (0 : Nat)) (gamb l)))))).length : Int) < (↑(List.map statD (gagp (prI (cnts (resMb l)) (0 : Nat)) (gamb l))).length : Int)) = false → ∃ (y : Int × Int), (0 : Int) ≤ (0 : Int) ∧ (List.map shD (sharesM c (cnts (resMb l))))[(0 : Nat)]? = some (D.agg [D.int IntKind.i64 y.fst, D.int IntKind.i64 y.snd]) ∧ (decide (y.snd = (100 : Int)) = true → True ∧ D.bool true = D.bool true) ∧ (decide (y.snd = (100 : Int)) = false → D.bool false = D.bool true)))) ∧ ((!othK c (cnts (resMb l)) ((cnts (resMb l)).length - (1 : Nat))) = false → (decide ((↑(List.map statD (gafr (List.map dStat (List.map statD (gagp (prI (cnts (resMb l)) (0 : Nat)) (gamb l)))))).length : Int) < (↑(List.map statD (gagp (prI (cnts (resMb l)) (0 : Nat)) (gamb l))).length : Int)) = true → True ∧ D.bool true = D.bool true) ∧ (decide ((↑(List.map statD (gafr (List.map dStat (List.map statD (gagp (prI (cnts (resMb l)) (0 : Nat)) (gamb l)))))).length : Int) < (↑(List.map statD (gagp (prI (cnts (resMb l)) (0 : Nat)) (gamb l))).length : Int)) = false → ∃ (y : Int × Int), (0 : Int) ≤ (0 : Int) ∧ (List.map shD (sharesM c (cnts (resMb l))))[(0 : Nat)]? = some (D.agg [D.int IntKind.i64 y.fst, D.int IntKind.i64 y.snd]) ∧ (decide (y.snd = (100 : Int)) = true → True ∧ D.bool true = D.bool true) ∧ (decide (y.snd = (100 : Int)) = false → D.bool false = D.bool true)))) ∧ (decide ((↑(List.map statD (gafr (List.map dStat (List.map statD (gagp (prI (cnts (resMb l)) (0 : Nat)) (gamb l)))))).length : Int) = (0 : Int)) = false → (decide ((↑(List.map statD (gafr (List.map dStat (List.map statD (gagp (prI (cnts (resMb l)) (0 : Nat)) (gamb l)))))).length : Int) < (↑(List.map statD (gagp (prI (cnts (resMb l)) (0 : Nat)) (gamb l))).length : Int)) = true → True ∧ D.bool true = D.bool true) ∧ (decide ((↑(List.map statD (gafr (List.map dStat (List.map statD (gagp (prI (cnts (resMb l)) (0 : Nat)) (gamb l)))))).length : Int) < (↑(List.map statD (gagp (prI (cnts (resMb l)) (0 : Nat)) (gamb l))).length : Int)) = false → ∃ (y : Int × Int), (0 : Int) ≤ (0 : Int) ∧ (List.map shD (sharesM c (cnts (resMb l))))[(0 : Nat)]? = some (D.agg [D.int IntKind.i64 y.fst, D.int IntKind.i64 y.snd]) ∧ (decide (y.snd = (100 : Int)) = true → True ∧ D.bool true = D.bool true) ∧ (decide (y.snd = (100 : Int)) = false → D.bool false = D.bool true))))) ∧ (othK c (cnts (resMb l)) ((cnts (resMb l)).length - (1 : Nat)) = false → (decide ((↑(List.map statD (gafr (List.map dStat (List.map statD (gagp (prI (cnts (resMb l)) (0 : Nat)) (gamb l)))))).length : Int) = (0 : Int)) = true → ((!othK c (cnts (resMb l)) ((cnts (resMb l)).length - (1 : Nat))) = true → ∃ (y : Int × Int), (0 : Int) ≤ (0 : Int) ∧ (List.map shD (sharesM c (cnts (resMb l))))[(0 : Nat)]? = some (D.agg [D.int IntKind.i64 y.fst, D.int IntKind.i64 y.snd]) ∧ (decide (y.snd ≠ (100 : Int)) = true → D.bool false = D.bool true) ∧ (decide (y.snd ≠ (100 : Int)) = false → (decide ((↑(List.map statD (gafr (List.map dStat (List.map statD (gagp (prI (cnts (resMb l)) (0 : Nat)) (gamb l)))))).length : Int) < (↑(List.map statD (gagp (prI (cnts (resMb l)) (0 : Nat)) (gamb l))).length : Int)) = true → True ∧ D.bool true = D.bool true) ∧ (decide ((↑(List.map statD (gafr (List.map dStat (List.map statD (gagp (prI (cnts (resMb l)) (0 : Nat)) (gamb l)))))).length : Int) < (↑(List.map statD (gagp (prI (cnts (resMb l)) (0 : Nat)) (gamb l))).length : Int)) = false → ∃ (y : Int × Int), (0 : Int) ≤ (0 : Int) ∧ (List.map shD (sharesM c (cnts (resMb l))))[(0 : Nat)]? = some (D.agg [D.int IntKind.i64 y.fst, D.int IntKind.i64 y.snd]) ∧ (decide (y.snd = (100 : Int)) = true → True ∧ D.bool true = D.bool true) ∧ (decide (y.snd = (100 : Int)) = false → D.bool false = D.bool true)))) ∧ ((!othK c (cnts (resMb l)) ((cnts (resMb l)).length - (1 : Nat))) = false → (decide ((↑(List.map statD (gafr (List.map dStat (List.map statD (gagp (prI (cnts (resMb l)) (0 : Nat)) (gamb l)))))).length : Int) < (↑(List.map statD (gagp (prI (cnts (resMb l)) (0 : Nat)) (gamb l))).length : Int)) = true → True ∧ D.bool true = D.bool true) ∧ (decide ((↑(List.map statD (gafr (List.map dStat (List.map statD (gagp (prI (cnts (resMb l)) (0 : Nat)) (gamb l)))))).length : Int) < (↑(List.map statD (gagp (prI (cnts (resMb l)) (0 : Nat)) (gamb l))).length : Int)) = false → ∃ (y : Int × Int), (0 : Int) ≤ (0 : Int) ∧ (List.map shD (sharesM c (cnts (resMb l))))[(0 : Nat)]? = some (D.agg [D.int IntKind.i64 y.fst, D.int IntKind.i64 y.snd]) ∧ (decide (y.snd = (100 : Int)) = true → True ∧ D.bool true = D.bool true) ∧ (decide (y.snd = (100 : Int)) = false → D.bool false = D.bool true)))) ∧ (decide ((↑(List.map statD (gafr (List.map dStat (List.map statD (gagp (prI (cnts (resMb l)) (0 : Nat)) (gamb l)))))).length : Int) = (0 : Int)) = false → (decide ((↑(List.map statD (gafr (List.map dStat (List.map statD (gagp (prI (cnts (resMb l)) (0 : Nat)) (gamb l)))))).length : Int) < (↑(List.map statD (gagp (prI (cnts (resMb l)) (0 : Nat)) (gamb l))).length : Int)) = true → True ∧ D.bool true = D.bool true) ∧ (decide ((↑(List.map statD (gafr (List.map dStat (List.map statD (gagp (prI (cnts (resMb l)) (0 : Nat)) (gamb l)))))).length : Int) < (↑(List.map statD (gagp (prI (cnts (resMb l)) (0 : Nat)) (gamb l))).length : Int)) = false → ∃ (y : Int × Int), (0 : Int) ≤ (0 : Int) ∧ (List.map shD (sharesM c (cnts (resMb l))))[(0 : Nat)]? = some (D.agg [D.int IntKind.i64 y.fst, D.int IntKind.i64 y.snd]) ∧ (decide (y.snd = (100 : Int)) = true → True ∧ D.bool true = D.bool true) ∧ (decide (y.snd = (100 : Int)) = false → D.bool false = D.bool true))))) ∧ (decide ((↑(List.map statD (gafr (List.map dStat (List.map statD (gagp (prI (cnts (resMb l)) (0 : Nat)) (gamb l)))))).length : Int) = (0 : Int)) = false → (decide ((↑(List.map statD (gafr (List.map dStat (List.map statD (gagp (prI (cnts (resMb l)) (0 : Nat)) (gamb l)))))).length : Int) = (0 : Int)) = true → ((!othK c (cnts (resMb l)) ((cnts (resMb l)).length - (1 : Nat))) = true → ∃ (y : Int × Int), (0 : Int) ≤ (0 : Int) ∧ (List.map shD (sharesM c (cnts (resMb l))))[(0 : Nat)]? = some (D.agg [D.int IntKind.i64 y.fst, D.int IntKind.i64 y.snd]) ∧ (decide (y.snd ≠ (100 : Int)) = true → D.bool false = D.bool true) ∧ (decide (y.snd ≠ (100 : Int)) = false → (decide ((↑(List.map statD (gafr (List.map dStat (List.map statD (gagp (prI (cnts (resMb l)) (0 : Nat)) (gamb l)))))).length : Int) < (↑(List.map statD (gagp (prI (cnts (resMb l)) (0 : Nat)) (gamb l))).length : Int)) = true → True ∧ D.bool true = D.bool true) ∧ (decide ((↑(List.map statD (gafr (List.map dStat (List.map statD (gagp (prI (cnts (resMb l)) (0 : Nat)) (gamb l)))))).length : Int) < (↑(List.map statD (gagp (prI (cnts (resMb l)) (0 : Nat)) (gamb l))).length : Int)) = false → ∃ (y : Int × Int), (0 : Int) ≤ (0 : Int) ∧ (List.map shD (sharesM c (cnts (resMb l))))[(0 : Nat)]? = some (D.agg [D.int IntKind.i64 y.fst, D.int IntKind.i64 y.snd]) ∧ (decide (y.snd = (100 : Int)) = true → True ∧ D.bool true = D.bool true) ∧ (decide (y.snd = (100 : Int)) = false → D.bool false = D.bool true)))) ∧ ((!othK c (cnts (resMb l)) ((cnts (resMb l)).length - (1 : Nat))) = false → (decide ((↑(List.map statD (gafr (List.map dStat (List.map statD (gagp (prI (cnts (resMb l)) (0 : Nat)) (gamb l)))))).length : Int) < (↑(List.map statD (gagp (prI (cnts (resMb l)) (0 : Nat)) (gamb l))).length : Int)) = true → True ∧ D.bool true = D.bool true) ∧ (decide ((↑(List.map statD (gafr (List.map dStat (List.map statD (gagp (prI (cnts (resMb l)) (0 : Nat)) (gamb l)))))).length : Int) < (↑(List.map statD (gagp (prI (cnts (resMb l)) (0 : Nat)) (gamb l))).length : Int)) = false → ∃ (y : Int × Int), (0 : Int) ≤ (0 : Int) ∧ (List.map shD (sharesM c (cnts (resMb l))))[(0 : Nat)]? = some (D.agg [D.int IntKind.i64 y.fst, D.int IntKind.i64 y.snd]) ∧ (decide (y.snd = (100 : Int)) = true → True ∧ D.bool true = D.bool true) ∧ (decide (y.snd = (100 : Int)) = false → D.bool false = D.bool true)))) ∧ (decide ((↑(List.map statD (gafr (List.map dStat (List.map statD (gagp (prI (cnts (resMb l)) (0 : Nat)) (gamb l)))))).length : Int) = (0 : Int)) = false → (decide ((↑(List.map statD (gafr (List.map dStat (List.map statD (gagp (prI (cnts (resMb l)) (0 : Nat)) (gamb l)))))).length : Int) < (↑(List.map statD (gagp (prI (cnts (resMb l)) (0 : Nat)) (gamb l))).length : Int)) = true → True ∧ D.bool true = D.bool true) ∧ (decide ((↑(List.map statD (gafr (List.map dStat (List.map statD (gagp (prI (cnts (resMb l)) (0 : Nat)) (gamb l)))))).length : Int) < (↑(List.map statD (gagp (prI (cnts (resMb l)) (0 : Nat)) (gamb l))).length : Int)) = false → ∃ (y : Int × Int), (0 : Int) ≤ (0 : Int) ∧ (List.map shD (sharesM c (cnts (resMb l))))[(0 : Nat)]? = some (D.agg [D.int IntKind.i64 y.fst, D.int IntKind.i64 y.snd]) ∧ (decide (y.snd = (100 : Int)) = true → True ∧ D.bool true = D.bool true) ∧ (decide (y.snd = (100 : Int)) = false → D.bool false = D.bool true))))))) := by
  rw [map_dStat, show (ti Try.prog 65).sz = 2 by kernel_rfl]
  refine ⟨⟨l, rfl, h1, h2⟩, fun _ => ⟨trivial, rfl⟩, fun h => ⟨⟨by trivial, hz⟩, fun _ => ⟨trivial, rfl⟩, fun hm => ?_⟩⟩
  have hl := lit16_len (l := l) (i := 0) (by omega) (of_decide_eq_false h)
  have hl : l.length ≤ 100 := by omega
  have hm : mayCfg c = true := by simpa using hm
  have hc := lmay_nums hm
  have hnu := nums_load hc
  have hml : (resMb l).length ≤ 100 := Nat.le_trans (resMb_len l) hl
  have hr := cnts_range (ms := resMb l) (by omega)
  have hcl := cnts_len (resMb l)
  have hok := cnts_ok (resMb l)
  have hsm : ∀ t ∈ gamb l, t.small := gamb_small h2
  have hgl : (gamb l).length ≤ 1000 := Nat.le_trans (gamb_len l) (by omega)
  have hSl : (List.map shD (sharesM c (cnts (resMb l)))).length = (cnts (resMb l)).length := by rw [List.length_map]; exact tab_len _ _
  have hT : List.take (cnts (resMb l)).length (List.map shD (sharesM c (cnts (resMb l)))) = List.map shD (sharesM c (cnts (resMb l))) := List.take_of_length_le (by omega)
  rw [hSl, hT]
  refine ⟨⟨⟨by trivial, hz⟩, hm, l, rfl, hl, h2⟩, fun _ => ⟨trivial, rfl⟩, fun hn => ?_⟩
  have hn : 0 < (cnts (resMb l)).length := by have := of_decide_eq_false hn; omega
  have hget : (List.map shD (sharesM c (cnts (resMb l))))[0]? = some (.agg [.int .i64 (prI (cnts (resMb l)) 0), .int .i64 (shPart c (cnts (resMb l)) 0)]) := by
    rw [List.getElem?_map]
    unfold sharesM
    rw [tab_get _ hn]; rfl
  obtain ⟨e1, e2, e3, e4⟩ := hok.ent _ (List.getElem_mem hn)
  obtain ⟨r1, r2, r3⟩ := hr _ (List.getElem_mem hn)
  have hA : ((List.map statD (gagp (prI (cnts (resMb l)) 0) (gamb l))).length : Int) = (cnts (resMb l))[0].2.1 := by rw [List.length_map, e2, ← prI_get hn]; exact group_len _ l
  have hF : ((List.map statD (gafr (gagp (prI (cnts (resMb l)) 0) (gamb l)))).length : Int) = (cnts (resMb l))[0].2.2 := by rw [List.length_map, e3, ← prI_get hn]; exact frees_len _ l
  have hoth : othK c (cnts (resMb l)) ((cnts (resMb l)).length - 1) = true ↔ ∃ k, ∃ hk : k < (cnts (resMb l)).length, 1 ≤ k ∧ 0 < partM c (cnts (resMb l))[k].2.2 (cnts (resMb l))[k].2.1 := by
    unfold othK
    rw [List.take_of_length_le (by rw [List.length_drop]; omega), List.any_eq_true]
    constructor
    · rintro ⟨x, hx, hp⟩
      obtain ⟨i, hi, rfl⟩ := List.getElem_of_mem hx
      rw [List.length_drop] at hi
      rw [List.getElem_drop] at hp
      exact ⟨1 + i, by omega, by omega, of_decide_eq_true hp⟩
    · rintro ⟨k, hk, hk1, hp⟩
      refine ⟨(cnts (resMb l))[k], ?_, decide_eq_true hp⟩
      rw [List.mem_iff_getElem?]
      exact ⟨k - 1, by rw [List.getElem?_drop, show 1 + (k - 1) = k by omega, List.getElem?_eq_getElem hk]⟩
  have fA : (cnts (resMb l))[0].2.2 = 0 → othK c (cnts (resMb l)) ((cnts (resMb l)).length - 1) = true → shPart c (cnts (resMb l)) 0 = 0 := by
    intro g ho
    obtain ⟨k, hk, _, hp⟩ := hoth.1 ho
    exact shPart_none hc hr (by omega) hn g hk hp
  have fB : (cnts (resMb l))[0].2.2 = 0 → othK c (cnts (resMb l)) ((cnts (resMb l)).length - 1) = false → shPart c (cnts (resMb l)) 0 = 100 := by
    intro g ho
    refine shPart_zero hc hr hn fun k hk hp => ?_
    by_cases hk0 : k = 0
    · subst hk0
      rw [g, partM_eq hc (by omega) (by omega) r3, if_pos (by omega)] at hp
      omega
    · have := hoth.2 ⟨k, hk, by omega, hp⟩
      rw [ho] at this; cases this
  have fC : ¬ (cnts (resMb l))[0].2.2 < (cnts (resMb l))[0].2.1 → shPart c (cnts (resMb l)) 0 = 100 := by
    intro g
    refine shPart_first hc hr hn e4 ?_
    have : (cnts (resMb l))[0].2.2 = (cnts (resMb l))[0].2.1 := by omega
    rw [this]
    exact Int.mul_le_mul_of_nonneg_left hnu.2.2.1 (by omega)
  refine ⟨⟨l, rfl, by omega, h2⟩, (prI (cnts (resMb l)) 0, shPart c (cnts (resMb l)) 0), by omega, hget, ⟨gamb l, rfl, hgl, hsm⟩, by omega, by omega, by omega, ?_, 0, ⟨by omega, hl, h2, hm, hz⟩, ⟨?_, .inr ⟨by trivial, by trivial⟩⟩, fun _ _ => ⟨⟨_, rfl, Nat.le_trans (gagp_len _ _) hgl, gagp_small _ hsm⟩, ?_⟩⟩
  · rw [List.all_eq_true]
    intro x hx
    obtain ⟨y, _, rfl⟩ := List.mem_map.1 (List.mem_of_mem_drop hx)
    rfl
  · rw [map_dStat]
    repeat' apply And.intro
    all_goals first
      | rfl
      | (rw [List.map_drop]; done)
      | (rw [List.map_drop]; simp)
  rw [map_dStat, hA, hF]
  generalize (cnts (resMb l))[0].2.2 = F0 at *
  generalize (cnts (resMb l))[0].2.1 = A0 at *
  generalize othK c (cnts (resMb l)) ((cnts (resMb l)).length - 1) = oe at *
  generalize shPart c (cnts (resMb l)) 0 = s0 at *
  clear hoth hok hr hA hF h2 hsm e2 e3
  cases oe
  · have fB := fun g => fB g rfl
    clear fA
    repeat' (first | (refine And.intro ?_ ?_) | (intro _) | (refine Exists.intro (prI (cnts (resMb l)) 0, s0) ?_))
    all_goals first
      | trivial
      | exact hget
      | omega
      | (exfalso; simp only [decide_eq_true_eq, decide_eq_false_iff_not, ne_eq, Decidable.not_not, Bool.not_false, Bool.false_eq_true, Bool.true_eq_false] at *; omega)
  · have fA := fun g => fA g rfl
    clear fB
    repeat' (first | (refine And.intro ?_ ?_) | (intro _) | (refine Exists.intro (prI (cnts (resMb l)) 0, s0) ?_))
    all_goals first
      | trivial
      | exact hget
      | omega
      | (exfalso; simp only [decide_eq_true_eq, decide_eq_false_iff_not, ne_eq, Decidable.not_not, Bool.not_true, Bool.false_eq_true, Bool.true_eq_false] at *; omega)
theorem loadMore_law {x0 : List D} (o0 : OkL reachBytes [.int .i64, .int .i64, .int .i64, .int .i64, .int .i64, .int .i64, .int .i64, .int .i64, .int .i64, .int .i64, .int .i64, .int .i64, .int .i64, .int .i64, .int .i64, .bool, .int .i64, .int .i64, .int .i64, .int .i64, .int .i64, .str, .bool] x0) {x1 : List D} (o1 : OkL reachBytes [.sl true [.int .i64, .str, .int .i64, .str, .int .i64, .sl true [.str, .str], .bool, .int .i64, .int .i64, .int .i64, .int .i64, .int .i64, .int .i64, .bool, .int .i64, .int .i64, .int .i64, .bool, .int .i64, .int .i64, .int .i64]] x1) : DataFun Try.prog 10 [vOf true x0, vOf false x1] (.bool true) := by
  obtain ⟨c, rfl, _, hz⟩ := cfgL_of' o0
  obtain ⟨f, l, rfl, h1, h2⟩ := okl1_stats o1
  refine dataFunL (C := lmCfg f c l) (ctrs_ok lmC rfl rfl) rfl Try.func10 (by kernel_rfl) (l := [lp Try.f10 9]) (by kernel_rfl) ?_ (by kernel_rfl) (by kernel_rfl) (by kernel_rfl) (lmN f c l h2 (fun t ht => (h1 t ht).1) hz)
  intro x hx
  rw [List.mem_singleton.1 hx]
  exact (lmA f _ _ c l _ _ _ _ _).fits 9 [(0, true)] (by kernel_rfl) rfl fun s hs => lmAR f _ _ c l _ _ _ _ _ rfl rfl rfl id s hs
end Go.Proofs.Ytgibpomhiilehaa.Dv
