/- How requests went: the laws. -/
import Derived.Test.YtfjgngdomjjpgaaC1
set_option linter.unusedVariables false
set_option linter.unusedSimpArgs false
namespace Go.Proofs.Ytfjgngdomjjpgaa.Dv
open Go Go.Proofs
def lawC12 : List Ctr := [mayC, mayC', noteC, noteC', rateC, rateC', enoughC, enoughC', failC, failC', awakeC 43 (by kernel_rfl)]
theorem formsBN {o a n p : Int} {x : Bool} (ho : rI o) (ha : rI a) (hn : rI n) (hp : rI p) : True ∧ True ∧ ([decide ((noteB o a x).fst = (noteB o a x).fst), decide ((noteB o a x).snd = (noteB o a x).snd)].all id = true → True ∧ True ∧ (decide (mayB o a = mayB o a) = true → (rI o ∧ rI a) ∧ (rI o ∧ rI a) ∧ (decide (rateB o a = rateB o a) = true → True ∧ True ∧ (decide (enoughB o a n = enoughB o a n) = true → (rI o ∧ rI a ∧ rI p) ∧ (rI o ∧ rI a ∧ rI p) ∧ (decide (failB o a p = failB o a p) = true → True ∧ D.bool true = D.bool true) ∧ (decide (failB o a p = failB o a p) = false → D.bool false = D.bool true)) ∧ (decide (enoughB o a n = enoughB o a n) = false → D.bool false = D.bool true)) ∧ (decide (rateB o a = rateB o a) = false → D.bool false = D.bool true)) ∧ (decide (mayB o a = mayB o a) = false → D.bool false = D.bool true)) ∧ ([decide ((noteB o a x).fst = (noteB o a x).fst), decide ((noteB o a x).snd = (noteB o a x).snd)].all id = false → D.bool false = D.bool true) := by
  simp [ho, ha, hn, hp]
theorem failB_iff {o a p : Int} (h : mayB o a = true) (hp : 0 < p) : failB o a p = true ↔ 0 < a ∧ p * a ≤ (a - o) * 100 := by
  have h1 := mayB_t h
  unfold failB
  rw [decide_eq_true_eq]
  rw [pr_pos (by omega) (by omega)]
  constructor
  · rintro ⟨_, _, ha, hc⟩
    rw [pr_pos (by omega) (by omega)] at hc
    unfold cmpI at hc
    refine ⟨ha, ?_⟩
    split at hc
    · omega
    · omega
  · rintro ⟨ha, hc⟩
    rw [pr_pos (by omega) (by omega)]
    refine ⟨h, hp, ha, ?_⟩
    unfold cmpI
    rw [if_neg (by omega)]
    split <;> omega
theorem failB_le {o a p q : Int} (h : mayB o a = true) (hp : 0 < p) (hpq : p ≤ q) (hf : failB o a q = true) : failB o a p = true := by
  rw [failB_iff h (by omega)] at hf
  rw [failB_iff h hp]
  have := Int.mul_le_mul_of_nonneg_right hpq (show 0 ≤ a by omega)
  omega
theorem failsBN {o a p q : Int} (ho : rI o) (ha : rI a) (hp : rI p) (hq : rI q) : True ∧ ((!mayB o a) = true → (rI o ∧ rI a ∧ rI p) ∧ ((!failB o a p) = true → True ∧ ((!enoughB o a p) = true → (rI o ∧ rI a) ∧ (decide (rateB o a = (0 : Int)) = true → True ∧ D.bool true = D.bool true) ∧ (decide (rateB o a = (0 : Int)) = false → D.bool false = D.bool true)) ∧ ((!enoughB o a p) = false → D.bool false = D.bool true)) ∧ ((!failB o a p) = false → D.bool false = D.bool true)) ∧ ((!mayB o a) = false → True ∧ ((!mayB o a) = true → (rI o ∧ rI a ∧ rI p) ∧ ((!failB o a p) = true → True ∧ ((!enoughB o a p) = true → (rI o ∧ rI a) ∧ (decide (rateB o a = (0 : Int)) = true → True ∧ D.bool true = D.bool true) ∧ (decide (rateB o a = (0 : Int)) = false → D.bool false = D.bool true)) ∧ ((!enoughB o a p) = false → D.bool false = D.bool true)) ∧ ((!failB o a p) = false → D.bool false = D.bool true)) ∧ ((!mayB o a) = false → (0 : Int) ≤ wr IntKind.u64 p ∧ (0 : Int) < (100 : Int) ∧ ∀ (v : Int), v = wr IntKind.u64 p % (100 : Int) → inK IntKind.i64 v ∧ inK IntKind.i64 ((1 : Int) + v) ∧ (0 : Int) ≤ wr IntKind.u64 q ∧ (0 : Int) < (100 : Int) ∧ ∀ (v_1 : Int), v_1 = wr IntKind.u64 q % (100 : Int) → inK IntKind.i64 v_1 ∧ inK IntKind.i64 ((1 : Int) + v_1) ∧ (decide ((1 : Int) + v_1 < (1 : Int) + v) = true → (rI o ∧ rI a ∧ rI ((1 : Int) + v)) ∧ (failB o a ((1 : Int) + v) = true → (rI o ∧ rI a ∧ rI ((1 : Int) + v_1)) ∧ ((!failB o a ((1 : Int) + v_1)) = true → D.bool false = D.bool true) ∧ ((!failB o a ((1 : Int) + v_1)) = false → (decide (o = a) = true → (rI o ∧ rI a ∧ rI ((1 : Int) + v_1)) ∧ (failB o a ((1 : Int) + v_1) = true → D.bool false = D.bool true) ∧ (failB o a ((1 : Int) + v_1) = false → (rI o ∧ rI a ∧ rI (0 : Int)) ∧ (failB o a (0 : Int) = true → D.bool false = D.bool true) ∧ (failB o a (0 : Int) = false → (decide (a = (0 : Int)) = true → True ∧ D.bool true = D.bool true) ∧ (decide (a = (0 : Int)) = false → (decide ((0 : Int) < o) = true → True ∧ D.bool true = D.bool true) ∧ (decide ((0 : Int) < o) = false → (rI o ∧ rI a ∧ rI (100 : Int)) ∧ (failB o a (100 : Int) = true → True ∧ D.bool true = D.bool true) ∧ (failB o a (100 : Int) = false → D.bool false = D.bool true)))))) ∧ (decide (o = a) = false → (rI o ∧ rI a ∧ rI (0 : Int)) ∧ (failB o a (0 : Int) = true → D.bool false = D.bool true) ∧ (failB o a (0 : Int) = false → (decide (a = (0 : Int)) = true → True ∧ D.bool true = D.bool true) ∧ (decide (a = (0 : Int)) = false → (decide ((0 : Int) < o) = true → True ∧ D.bool true = D.bool true) ∧ (decide ((0 : Int) < o) = false → (rI o ∧ rI a ∧ rI (100 : Int)) ∧ (failB o a (100 : Int) = true → True ∧ D.bool true = D.bool true) ∧ (failB o a (100 : Int) = false → D.bool false = D.bool true))))))) ∧ (failB o a ((1 : Int) + v) = false → (decide (o = a) = true → (rI o ∧ rI a ∧ rI ((1 : Int) + v_1)) ∧ (failB o a ((1 : Int) + v_1) = true → D.bool false = D.bool true) ∧ (failB o a ((1 : Int) + v_1) = false → (rI o ∧ rI a ∧ rI (0 : Int)) ∧ (failB o a (0 : Int) = true → D.bool false = D.bool true) ∧ (failB o a (0 : Int) = false → (decide (a = (0 : Int)) = true → True ∧ D.bool true = D.bool true) ∧ (decide (a = (0 : Int)) = false → (decide ((0 : Int) < o) = true → True ∧ D.bool true = D.bool true) ∧ (decide ((0 : Int) < o) = false → (rI o ∧ rI a ∧ rI (100 : Int)) ∧ (failB o a (100 : Int) = true → True ∧ D.bool true = D.bool true) ∧ (failB o a (100 : Int) = false → D.bool false = D.bool true)))))) ∧ (decide (o = a) = false → (rI o ∧ rI a ∧ rI (0 : Int)) ∧ (failB o a (0 : Int) = true → D.bool false = D.bool true) ∧ (failB o a (0 : Int) = false → (decide (a = (0 : Int)) = true → True ∧ D.bool true = D.bool true) ∧ (decide (a = (0 : Int)) = false → (decide ((0 : Int) < o) = true → True ∧ D.bool true = D.bool true) ∧ (decide ((0 : Int) < o) = false → (rI o ∧ rI a ∧ rI (100 : Int)) ∧ (failB o a (100 : Int) = true → True ∧ D.bool true = D.bool true) ∧ (failB o a (100 : Int) = false → D.bool false = D.bool true))))))) ∧ (decide ((1 : Int) + v_1 < (1 : Int) + v) = false → (rI o ∧ rI a ∧ rI ((1 : Int) + v_1)) ∧ (failB o a ((1 : Int) + v_1) = true → (rI o ∧ rI a ∧ rI ((1 : Int) + v)) ∧ ((!failB o a ((1 : Int) + v)) = true → D.bool false = D.bool true) ∧ ((!failB o a ((1 : Int) + v)) = false → (decide (o = a) = true → (rI o ∧ rI a ∧ rI ((1 : Int) + v)) ∧ (failB o a ((1 : Int) + v) = true → D.bool false = D.bool true) ∧ (failB o a ((1 : Int) + v) = false → (rI o ∧ rI a ∧ rI (0 : Int)) ∧ (failB o a (0 : Int) = true → D.bool false = D.bool true) ∧ (failB o a (0 : Int) = false → (decide (a = (0 : Int)) = true → True ∧ D.bool true = D.bool true) ∧ (decide (a = (0 : Int)) = false → (decide ((0 : Int) < o) = true → True ∧ D.bool true = D.bool true) ∧ (decide ((0 : Int) < o) = false → (rI o ∧ rI a ∧ rI (100 : Int)) ∧ (failB o a (100 : Int) = true → True ∧ D.bool true = D.bool true) ∧ (failB o a (100 : Int) = false → D.bool false = D.bool true)))))) ∧ (decide (o = a) = false → (rI o ∧ rI a ∧ rI (0 : Int)) ∧ (failB o a (0 : Int) = true → D.bool false = D.bool true) ∧ (failB o a (0 : Int) = false → (decide (a = (0 : Int)) = true → True ∧ D.bool true = D.bool true) ∧ (decide (a = (0 : Int)) = false → (decide ((0 : Int) < o) = true → True ∧ D.bool true = D.bool true) ∧ (decide ((0 : Int) < o) = false → (rI o ∧ rI a ∧ rI (100 : Int)) ∧ (failB o a (100 : Int) = true → True ∧ D.bool true = D.bool true) ∧ (failB o a (100 : Int) = false → D.bool false = D.bool true))))))) ∧ (failB o a ((1 : Int) + v_1) = false → (decide (o = a) = true → (rI o ∧ rI a ∧ rI ((1 : Int) + v)) ∧ (failB o a ((1 : Int) + v) = true → D.bool false = D.bool true) ∧ (failB o a ((1 : Int) + v) = false → (rI o ∧ rI a ∧ rI (0 : Int)) ∧ (failB o a (0 : Int) = true → D.bool false = D.bool true) ∧ (failB o a (0 : Int) = false → (decide (a = (0 : Int)) = true → True ∧ D.bool true = D.bool true) ∧ (decide (a = (0 : Int)) = false → (decide ((0 : Int) < o) = true → True ∧ D.bool true = D.bool true) ∧ (decide ((0 : Int) < o) = false → (rI o ∧ rI a ∧ rI (100 : Int)) ∧ (failB o a (100 : Int) = true → True ∧ D.bool true = D.bool true) ∧ (failB o a (100 : Int) = false → D.bool false = D.bool true)))))) ∧ (decide (o = a) = false → (rI o ∧ rI a ∧ rI (0 : Int)) ∧ (failB o a (0 : Int) = true → D.bool false = D.bool true) ∧ (failB o a (0 : Int) = false → (decide (a = (0 : Int)) = true → True ∧ D.bool true = D.bool true) ∧ (decide (a = (0 : Int)) = false → (decide ((0 : Int) < o) = true → True ∧ D.bool true = D.bool true) ∧ (decide ((0 : Int) < o) = false → (rI o ∧ rI a ∧ rI (100 : Int)) ∧ (failB o a (100 : Int) = true → True ∧ D.bool true = D.bool true) ∧ (failB o a (100 : Int) = false → D.bool false = D.bool true))))))))) := by
  cases h : mayB o a with
  | false => simp [ho, ha, hp, failB, enoughB, rateB, h]
  | true =>
    refine ⟨trivial, chkf rfl ⟨trivial, chkf rfl ⟨by simp only [wr]; omega, by decide, ?_⟩⟩⟩
    intro x hx
    refine ⟨by simp only [inK]; omega, by simp only [inK]; omega, by simp only [wr]; omega, by decide, ?_⟩
    intro y hy
    have x0 : 0 ≤ x ∧ x < 100 := by omega
    have y0 : 0 ≤ y ∧ y < 100 := by omega
    clear hx hy
    have h3 := mayB_t h
    have f0 : failB o a 0 = false := by unfold failB; simp
    have fe : o = a → ∀ z, 0 < z → failB o a z = false := by
      intro e z hz
      cases hf : failB o a z with
      | false => rfl
      | true =>
        have := (failB_iff h hz).1 hf
        have h2 := Int.mul_pos hz this.1
        rw [e, Int.sub_self] at this
        omega
    have f1 : a ≠ 0 → ¬0 < o → failB o a 100 = true := by
      intro h1 h2
      have h3 := mayB_t h
      rw [failB_iff h (by omega)]
      omega
    have m1 : y ≤ x → failB o a (1 + x) = true → failB o a (1 + y) = true := fun hle => failB_le h (by omega) (by omega)
    have m2 : x ≤ y → failB o a (1 + y) = true → failB o a (1 + x) = true := fun hle => failB_le h (by omega) (by omega)
    have h4 : a ≠ 0 ∨ a = 0 := by omega
    have e1 : o = a → failB o a (1 + x) = false := fun e => fe e _ (by omega)
    have e2 : o = a → failB o a (1 + y) = false := fun e => fe e _ (by omega)
    clear fe
    generalize failB o a (1 + x) = F1 at *
    generalize failB o a (1 + y) = F2 at *
    generalize failB o a 100 = F3 at *
    rw [f0]
    simp only [inK, rI, decide_eq_true_eq, decide_eq_false_iff_not] at *
    repeat' (first | (intro _) | (apply And.intro))
    all_goals first
      | omega
      | trivial
      | (exfalso; clear m1 m2; grind)
      | grind
end Go.Proofs.Ytfjgngdomjjpgaa.Dv
