/- How requests went. -/
import Derived.Test.YtfclelafcdcilaaA4
set_option linter.unusedVariables false
set_option linter.unusedSimpArgs false
namespace Go.Proofs.Ytfclelafcdcilaa.Dv
open Go Go.Proofs
def bkD (o a : Int) : D := .agg [.int .i64 o, .int .i64 a]
def mayB (o a : Int) : Bool := decide (0 ≤ o ∧ o ≤ a ∧ a ≤ 1000000000)
def noteB (o a : Int) (x : Bool) : Int × Int := if mayB o a = false then (o, a) else if a = 1000000000 then (o, a) else (if x = true then o + 1 else o, a + 1)
def rateB (o a : Int) : Int := if mayB o a = false then 0 else if a = 0 then 0 else o * 10000 / a
def enoughB (o a n : Int) : Bool := decide (mayB o a = true ∧ 0 < a ∧ n ≤ a)
def failB (o a p : Int) : Bool := decide (mayB o a = true ∧ 0 < p ∧ 0 < a ∧ 0 ≤ cmpI (pr (a - o) 100) (pr p a))
theorem mayB_t {o a : Int} (h : mayB o a = true) : 0 ≤ o ∧ o ≤ a ∧ a ≤ 1000000000 := of_decide_eq_true h
def mayS : List D → Option DOut := fun vs => match vs with | [.agg [.int .i64 o, .int .i64 a]] => some ⟨True, .bool (mayB o a)⟩ | _ => none
theorem mayN (o a : Int) : (decide ((0 : Int) ≤ o) = true → (decide (o ≤ a) = true → D.bool (decide (a ≤ (1000000000 : Int))) = D.bool (mayB o a)) ∧ (decide (o ≤ a) = false → D.bool false = D.bool (mayB o a))) ∧ (decide ((0 : Int) ≤ o) = false → D.bool false = D.bool (mayB o a)) := by
  unfold mayB
  repeat' (first | (intro _) | (apply And.intro))
  all_goals first | omega | rfl | trivial | (simp only [D.bool.injEq, D.int.injEq, D.tup.injEq, D.agg.injEq, D.str.injEq, D.sl.injEq, List.cons.injEq, true_and, and_true, decide_eq_true_eq, decide_eq_false_iff_not, false_eq_decide_iff, true_eq_decide_iff, decide_eq_decide, Bool.false_eq_true, Bool.true_eq_false, not_false_eq_true, not_true_eq_false, inK, rI] at *; first | done | omega | ((repeat' split) <;> omega) | simp_all)
def mayC : Ctr := ⟨52, mayS, by
  intro vs o ho hp
  unfold mayS at ho
  split at ho
  · rename_i o a; injection ho with ho; subst ho
    exact dataFun0 (C := cfgOf []) (ctrs_ok [] rfl rfl) rfl Try.func52 (by kernel_rfl) (by kernel_rfl) (by kernel_rfl) (by kernel_rfl) (by kernel_rfl) (mayN o a)
  · cases ho⟩
def mayC' : Ctr := ⟨18, mayS, by
  intro vs o ho hp
  unfold mayS at ho
  split at ho
  · rename_i o a; injection ho with ho; subst ho
    exact dataFun0 (C := cfgOf []) (ctrs_ok [] rfl rfl) rfl Try.func18 (by kernel_rfl) (by kernel_rfl) (by kernel_rfl) (by kernel_rfl) (by kernel_rfl) (mayN o a)
  · cases ho⟩
def rateS : List D → Option DOut := fun vs => match vs with | [.agg [.int .i64 o, .int .i64 a]] => some ⟨rI o ∧ rI a, .int .i64 (rateB o a)⟩ | _ => none
theorem rateN {o a : Int} (ho : rI o) (ha : rI a) : True ∧ ((!mayB o a) = true → D.int IntKind.i64 (0 : Int) = D.int IntKind.i64 (rateB o a)) ∧ ((!mayB o a) = false → (rI o ∧ rI (10000 : Int) ∧ rI a) ∧ D.int IntKind.i64 (mdI o (10000 : Int) a).fst = D.int IntKind.i64 (rateB o a)) := by
  unfold rateB
  cases h : mayB o a with
  | false => simp [ho, ha, rI]
  | true =>
    have h1 := mayB_t h
    refine ⟨trivial, chkf rfl ⟨⟨ho, by unfold rI; decide, ha⟩, ?_⟩⟩
    rw [if_neg (by decide)]
    by_cases ha0 : a = 0
    · rw [if_pos ha0, ha0]; unfold mdI; rw [if_neg (by omega), if_neg (by omega), if_pos (by omega)]
    · rw [if_neg ha0]
      have h2 : o * 10000 / a ≤ o * 10000 := Int.ediv_le_self _ (by omega)
      rw [mdI_ok (by omega) (by omega) (by omega) (by omega)]
def rateC : Ctr := ⟨31, rateS, by
  intro vs o ho hp
  unfold rateS at ho
  split at ho
  · injection ho with ho; subst ho
    exact dataFun0 (C := cfgOf [mayC, mdC]) (ctrs_ok [mayC, mdC] rfl rfl) rfl Try.func31 (by kernel_rfl) (by kernel_rfl) (by kernel_rfl) (by kernel_rfl) (by kernel_rfl) (rateN hp.1 hp.2)
  · cases ho⟩
theorem rateN' {o a : Int} (ho : rI o) (ha : rI a) : True ∧ ((!mayB o a) = true → D.int IntKind.i64 (0 : Int) = D.int IntKind.i64 (rateB o a)) ∧ ((!mayB o a) = false → (decide (a = (0 : Int)) = true → D.int IntKind.i64 (0 : Int) = D.int IntKind.i64 (rateB o a)) ∧ (decide (a = (0 : Int)) = false → inK IntKind.i64 (o * (10000 : Int)) ∧ (0 : Int) ≤ o * (10000 : Int) ∧ (0 : Int) < a ∧ inK IntKind.i64 (o * (10000 : Int)) ∧ D.int IntKind.i64 (o * (10000 : Int) / a) = D.int IntKind.i64 (rateB o a))) := by
  unfold rateB
  cases h : mayB o a with
  | false => simp
  | true =>
    have h1 := mayB_t h
    simp [inK]
    repeat' (first | (intro _) | (apply And.intro))
    all_goals first | omega | simp_all
def rateC' : Ctr := ⟨17, rateS, by
  intro vs o ho hp
  unfold rateS at ho
  split at ho
  · injection ho with ho; subst ho
    exact dataFun0 (C := cfgOf [mayC']) (ctrs_ok [mayC'] rfl rfl) rfl Try.func17 (by kernel_rfl) (by kernel_rfl) (by kernel_rfl) (by kernel_rfl) (by kernel_rfl) (rateN' hp.1 hp.2)
  · cases ho⟩
def enoughS : List D → Option DOut := fun vs => match vs with | [.agg [.int .i64 o, .int .i64 a], .int .i64 n] => some ⟨True, .bool (enoughB o a n)⟩ | _ => none
theorem enoughN (o a n : Int) : True ∧ (mayB o a = true → (decide ((0 : Int) < a) = true → D.bool (decide (n ≤ a)) = D.bool (enoughB o a n)) ∧ (decide ((0 : Int) < a) = false → D.bool false = D.bool (enoughB o a n))) ∧ (mayB o a = false → D.bool false = D.bool (enoughB o a n)) := by
  unfold enoughB
  cases h : mayB o a <;> simp <;> (repeat' (first | (intro _) | (apply And.intro))) <;> first | omega | simp_all
def enoughC : Ctr := ⟨30, enoughS, by
  intro vs o ho hp
  unfold enoughS at ho
  split at ho
  · rename_i o a n; injection ho with ho; subst ho
    exact dataFun0 (C := cfgOf [mayC]) (ctrs_ok [mayC] rfl rfl) rfl Try.func30 (by kernel_rfl) (by kernel_rfl) (by kernel_rfl) (by kernel_rfl) (by kernel_rfl) (enoughN o a n)
  · cases ho⟩
def enoughC' : Ctr := ⟨16, enoughS, by
  intro vs o ho hp
  unfold enoughS at ho
  split at ho
  · rename_i o a n; injection ho with ho; subst ho
    exact dataFun0 (C := cfgOf [mayC']) (ctrs_ok [mayC'] rfl rfl) rfl Try.func16 (by kernel_rfl) (by kernel_rfl) (by kernel_rfl) (by kernel_rfl) (by kernel_rfl) (enoughN o a n)
  · cases ho⟩
def failS : List D → Option DOut := fun vs => match vs with | [.agg [.int .i64 o, .int .i64 a], .int .i64 p] => some ⟨rI o ∧ rI a ∧ rI p, .bool (failB o a p)⟩ | _ => none
theorem failN {o a p : Int} (ho : rI o) (ha : rI a) (hp : rI p) : True ∧ (mayB o a = true → (decide ((0 : Int) < p) = true → (decide ((0 : Int) < a) = true → inK IntKind.i64 (a - o) ∧ (rI (a - o) ∧ rI (100 : Int) ∧ rI p ∧ rI a) ∧ D.bool (decide ((0 : Int) ≤ cmpI (pr (a - o) (100 : Int)) (pr p a))) = D.bool (failB o a p)) ∧ (decide ((0 : Int) < a) = false → D.bool false = D.bool (failB o a p))) ∧ (decide ((0 : Int) < p) = false → D.bool false = D.bool (failB o a p))) ∧ (mayB o a = false → D.bool false = D.bool (failB o a p)) := by
  unfold failB
  cases h : mayB o a with
  | false => simp
  | true =>
    have h1 := mayB_t h
    unfold rI at *
    simp [inK]
    repeat' (first | (intro _) | (apply And.intro))
    all_goals first | omega | simp_all
theorem failN' {o a p : Int} (ho : rI o) (ha : rI a) (hp : rI p) : True ∧ (mayB o a = true → (decide ((0 : Int) < a) = true → (decide ((0 : Int) < p) = true → inK IntKind.i64 (a - o) ∧ (rI (a - o) ∧ rI (100 : Int) ∧ rI p ∧ rI a) ∧ D.bool (decide ((0 : Int) ≤ cmpI (pr (a - o) (100 : Int)) (pr p a))) = D.bool (failB o a p)) ∧ (decide ((0 : Int) < p) = false → D.bool false = D.bool (failB o a p))) ∧ (decide ((0 : Int) < a) = false → D.bool false = D.bool (failB o a p))) ∧ (mayB o a = false → D.bool false = D.bool (failB o a p)) := by
  unfold failB
  cases h : mayB o a with
  | false => simp
  | true =>
    have h1 := mayB_t h
    unfold rI at *
    simp [inK]
    repeat' (first | (intro _) | (apply And.intro))
    all_goals first | omega | simp_all
def failC : Ctr := ⟨32, failS, by
  intro vs o ho hp
  unfold failS at ho
  split at ho
  · injection ho with ho; subst ho
    exact dataFun0 (C := cfgOf [mayC, cmpC]) (ctrs_ok [mayC, cmpC] rfl rfl) rfl Try.func32 (by kernel_rfl) (by kernel_rfl) (by kernel_rfl) (by kernel_rfl) (by kernel_rfl) (failN hp.1 hp.2.1 hp.2.2)
  · cases ho⟩
def failC' : Ctr := ⟨19, failS, by
  intro vs o ho hp
  unfold failS at ho
  split at ho
  · injection ho with ho; subst ho
    exact dataFun0 (C := cfgOf [mayC', cmpC']) (ctrs_ok [mayC', cmpC'] rfl rfl) rfl Try.func19 (by kernel_rfl) (by kernel_rfl) (by kernel_rfl) (by kernel_rfl) (by kernel_rfl) (failN' hp.1 hp.2.1 hp.2.2)
  · cases ho⟩
end Go.Proofs.Ytfclelafcdcilaa.Dv
