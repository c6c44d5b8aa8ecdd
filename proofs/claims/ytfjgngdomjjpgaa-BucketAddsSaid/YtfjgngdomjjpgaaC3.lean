/- How requests went: one by one. -/
import Derived.Test.YtfjgngdomjjpgaaC2
set_option linter.unusedVariables false
set_option linter.unusedSimpArgs false
namespace Go.Proofs.Ytfjgngdomjjpgaa.Dv
open Go Go.Proofs
def cT (l : List Bool) : Int := (l.count true : Nat)
theorem cT_le (l : List Bool) : 0 ≤ cT l ∧ cT l ≤ l.length := by unfold cT; have := List.count_le_length (a := true) (l := l); omega
theorem cT_snoc (l : List Bool) (x : Bool) : cT (l ++ [x]) = if x = true then cT l + 1 else cT l := by unfold cT; cases x <;> simp [List.count_append]
theorem noteB_ok {o n : Int} (x : Bool) (h0 : 0 ≤ o) (h1 : o ≤ n) (h2 : n ≤ 300) : noteB o n x = (if x = true then o + 1 else o, n + 1) := by
  have h : mayB o n = true := decide_eq_true ⟨h0, h1, by omega⟩
  unfold noteB
  rw [h, if_neg (by decide), if_neg (by omega)]
theorem cross {a b c d : Int} (hb : 0 < b) (hd : 0 < d) (h : a * d ≤ c * b) : a / b ≤ c / d := by
  refine Int.le_ediv_of_mul_le hd ?_
  have h1 : a / b * b ≤ a := Int.ediv_mul_le a (by omega)
  have h2 := Int.mul_le_mul_of_nonneg_right h1 (show 0 ≤ d by omega)
  refine Int.le_of_mul_le_mul_right (a := b) ?_ hb
  rw [Int.mul_assoc, Int.mul_comm d, ← Int.mul_assoc]
  omega
theorem rateB_ok {o n : Int} (h0 : 0 ≤ o) (h1 : o ≤ n) (h2 : n ≤ 1000000000) (hn : 0 < n) : rateB o n = o * 10000 / n := by
  have h : mayB o n = true := decide_eq_true ⟨h0, h1, h2⟩
  unfold rateB
  rw [h, if_neg (by decide), if_neg (by omega)]
theorem rateB_0 (o : Int) : rateB o 0 = 0 := by unfold rateB; split <;> rfl
theorem rateB_in {o n : Int} (h0 : 0 ≤ o) (h1 : o ≤ n) (h2 : n ≤ 1000000000) : 0 ≤ rateB o n ∧ rateB o n ≤ 10000 := by
  rcases Int.lt_or_le 0 n with hn | hn
  · rw [rateB_ok h0 h1 h2 hn]
    exact ⟨Int.ediv_nonneg (by omega) (by omega), Int.ediv_le_of_le_mul hn (by omega)⟩
  · rw [show n = 0 by omega, rateB_0]; omega
theorem rateB_up {o n : Int} (h0 : 0 ≤ o) (h1 : o ≤ n) (h2 : n ≤ 300) : rateB o n ≤ rateB (o + 1) (n + 1) := by
  rcases Int.lt_or_le 0 n with hn | hn
  · rw [rateB_ok h0 h1 (by omega) hn, rateB_ok (by omega) (by omega) (by omega) (by omega)]
    refine cross hn (by omega) ?_
    have e1 : o * 10000 * (n + 1) = o * n * 10000 + o * 10000 := by rw [Int.mul_add, Int.mul_one, Int.mul_assoc, Int.mul_comm 10000, ← Int.mul_assoc]
    have e2 : (o + 1) * 10000 * n = o * n * 10000 + n * 10000 := by rw [Int.mul_assoc, Int.add_mul, Int.one_mul, Int.mul_comm 10000, ← Int.mul_assoc]
    rw [e1, e2]
    omega
  · rw [show n = 0 by omega, rateB_0]; exact (rateB_in (by omega) (by omega) (by omega)).1
theorem rateB_dn {o n : Int} (h0 : 0 ≤ o) (h1 : o ≤ n) (h2 : n ≤ 300) (hn : 0 < n) : rateB o (n + 1) ≤ rateB o n := by
  rw [rateB_ok h0 h1 (by omega) hn, rateB_ok (by omega) (by omega) (by omega) (by omega)]
  refine cross (by omega) hn ?_
  rw [Int.mul_add, Int.mul_one]
  omega
theorem rateB_all {o n : Int} (h0 : 0 ≤ o) (h1 : o ≤ n) (h2 : n ≤ 1000000000) (hn : 0 < n) : rateB o n = 10000 ↔ o = n := by
  rw [rateB_ok h0 h1 h2 hn]
  constructor
  · intro h
    have := Int.ediv_mul_le (o * 10000) (show n ≠ 0 by omega)
    rw [h] at this
    omega
  · rintro rfl
    rw [Int.mul_comm]
    exact Int.mul_ediv_cancel _ (by omega)
def ratesL (f : Bool) : WLoop := { St := List Bool × List Bool, O := Int × Int
                                   T := fun s => [(3, .ptr 0 0 0), (4, .int .i64 (cT s.1)), (15, .sl f ((s.1 ++ s.2).map bD)), (16, .int .i64 (s.1 ++ s.2).length), (17, .int .i64 s.1.length)]
                                   S := fun s => [some (.row .own 2 [bkD (cT s.1) s.1.length])]
                                   ok := fun s => s.1.length + s.2.length ≤ 300, μ := fun s => s.2.length, m := fun s => (cT (s.1 ++ s.2), (s.1 ++ s.2).length), src := [(0, true)]
                                   outs := [{ α := Int × Int, is := Eq, ex := .exit 0, src := [(0, true)], T := fun _ => [(3, .ptr 0 0 0)], S := fun o => [some (.row .own 2 [bkD o.1 o.2])] }] }
def hN : List (Nat × Hn) := [(18, .f)]
def hT : List (Nat × Hn) := [(18, .t), (27, .t), (37, .f), (43, .f), (47, .f), (51, .f), (53, .t), (59, .f), (62, .f), (72, .f), (81, .f), (84, .f), (88, .f)]
def hF : List (Nat × Hn) := [(18, .t), (27, .f), (37, .f), (43, .f), (47, .f), (51, .f), (53, .f), (59, .f), (62, .t), (72, .f), (81, .f), (88, .f)]
theorem ratesR (f : Bool) (s : (ratesL f).St) (hs : (ratesL f).ok s) : Tri Try.prog 0 96 (lp Try.f10 6) (tb ((ratesL f).T s)) ((ratesL f).S s) ((ratesL f).q 0 s) := by
  obtain ⟨done, rest⟩ := s
  have h1 : done.length + rest.length ≤ 300 := hs
  have hc := cT_le done
  cases rest with
  | nil =>
    refine round0 (C := cfgH lawC12 hN) (ctrs_ok lawC12 rfl rfl) (by kernel_rfl) (by kernel_rfl) (q := decide ((↑done.length : Int) < (↑(done ++ []).length : Int)) = false ∧ ∃ (a : Int × Int), (cT (done ++ []), (↑(done ++ []).length : Int)) = a ∧ D.ptr (0 : Nat) (0 : Nat) (0 : Nat) = D.ptr (0 : Nat) (0 : Nat) (0 : Nat) ∧ (some (Ob.row St.own (2 : Nat) [D.agg [D.int IntKind.i64 a.fst, D.int IntKind.i64 a.snd]]) = none ∨ some (Ob.row St.own (2 : Nat) [D.agg [D.int IntKind.i64 a.fst, D.int IntKind.i64 a.snd]]) = some (Ob.row St.own (2 : Nat) [D.agg [D.int IntKind.i64 (cT done), D.int IntKind.i64 (↑done.length : Int)]]) ∧ true = true)) (by kernel_rfl) ?_
    simp [D.pure, D.pleaf, bkD]
  | cons x rest =>
    simp only [List.length_cons] at h1
    have r1 := rateB_in (o := cT done) (n := done.length) hc.1 hc.2 (by omega)
    cases x with
    | true =>
      refine round0 (C := cfgH lawC12 hT) (ctrs_ok lawC12 rfl rfl) (by kernel_rfl) (by kernel_rfl) (q := decide ((↑done.length : Int) < (↑(done ++ true :: rest).length : Int)) = true ∧ ∃ (y : Bool), (0 : Int) ≤ (↑done.length : Int) ∧ (List.map bD (done ++ true :: rest))[(↑done.length : Int).toNat]? = some (D.bool y) ∧ (rI (cT done) ∧ rI (↑done.length : Int)) ∧ True ∧ y = true ∧ inK IntKind.i64 (cT done + (1 : Int)) ∧ (rI (noteB (cT done) (↑done.length : Int) y).fst ∧ rI (noteB (cT done) (↑done.length : Int) y).snd) ∧ inK IntKind.i64 ((↑done.length : Int) + (1 : Int)) ∧ decide ((noteB (cT done) (↑done.length : Int) y).snd ≠ (↑done.length : Int) + (1 : Int)) = false ∧ decide ((noteB (cT done) (↑done.length : Int) y).fst ≠ cT done + (1 : Int)) = false ∧ decide (rateB (noteB (cT done) (↑done.length : Int) y).fst (noteB (cT done) (↑done.length : Int) y).snd < (0 : Int)) = false ∧ decide ((10000 : Int) < rateB (noteB (cT done) (↑done.length : Int) y).fst (noteB (cT done) (↑done.length : Int) y).snd) = false ∧ y = true ∧ decide (rateB (noteB (cT done) (↑done.length : Int) y).fst (noteB (cT done) (↑done.length : Int) y).snd < rateB (cT done) (↑done.length : Int)) = false ∧ (!y) = false ∧ inK IntKind.i64 ((↑done.length : Int) + (1 : Int)) ∧ (!decide (decide (rateB (noteB (cT done) (↑done.length : Int) y).fst (noteB (cT done) (↑done.length : Int) y).snd = (10000 : Int)) = decide (cT done + (1 : Int) = (↑done.length : Int) + (1 : Int)))) = false ∧ false = false ∧ inK IntKind.i64 ((↑done.length : Int) + (1 : Int)) ∧ ∃ (s' : (ratesL f).St), s'.fst.length + s'.snd.length ≤ (300 : Nat) ∧ s'.snd.length.succ ≤ (true :: rest).length ∧ (cT (s'.fst ++ s'.snd), (↑(s'.fst ++ s'.snd).length : Int)) = (cT (done ++ true :: rest), (↑(done ++ true :: rest).length : Int)) ∧ (D.ptr (0 : Nat) (0 : Nat) (0 : Nat) = D.ptr (0 : Nat) (0 : Nat) (0 : Nat) ∧ D.int IntKind.i64 (cT s'.fst) = D.int IntKind.i64 (cT done + (1 : Int)) ∧ D.sl f (List.map bD (s'.fst ++ s'.snd)) = D.sl f (List.map bD (done ++ true :: rest)) ∧ D.int IntKind.i64 (↑(s'.fst ++ s'.snd).length : Int) = D.int IntKind.i64 (↑(done ++ true :: rest).length : Int) ∧ D.int IntKind.i64 (↑s'.fst.length : Int) = D.int IntKind.i64 ((↑done.length : Int) + (1 : Int))) ∧ (some (Ob.row St.own (2 : Nat) [D.agg [D.int IntKind.i64 (cT s'.fst), D.int IntKind.i64 (↑s'.fst.length : Int)]]) = none ∨ some (Ob.row St.own (2 : Nat) [D.agg [D.int IntKind.i64 (cT s'.fst), D.int IntKind.i64 (↑s'.fst.length : Int)]]) = some (Ob.row St.own (2 : Nat) [D.agg [D.int IntKind.i64 (noteB (cT done) (↑done.length : Int) y).fst, D.int IntKind.i64 (noteB (cT done) (↑done.length : Int) y).snd]]) ∧ true = true)) (by kernel_rfl) ?_
      refine ⟨by simp; omega, true, by omega, get_midI bD _ _ _, ?_⟩
      have r2 := rateB_in (o := cT done + 1) (n := done.length + 1) (by omega) (by omega) (by omega)
      have r4 := rateB_all (o := cT done + 1) (n := done.length + 1) (by omega) (by omega) (by omega) (by omega)
      rw [noteB_ok _ hc.1 hc.2 (by omega)]
      simp only [inK, rI, true_and, Bool.false_eq_true, eq_self, if_true, if_false, Bool.not_true, Bool.not_false, decide_eq_false_iff_not, decide_eq_true_eq, ne_eq, Decidable.not_not]
      have r3 := rateB_up hc.1 hc.2 (show (done.length : Int) ≤ 300 by omega)
      repeat (refine ⟨by first | omega | rfl | trivial | (simp only [D.bool.injEq, D.int.injEq, D.tup.injEq, D.agg.injEq, D.str.injEq, D.sl.injEq, List.cons.injEq, true_and, and_true, decide_eq_true_eq, decide_eq_false_iff_not, false_eq_decide_iff, true_eq_decide_iff, decide_eq_decide, Bool.false_eq_true, Bool.true_eq_false, not_false_eq_true, not_true_eq_false, inK, rI, Bool.not_eq_false', Bool.not_eq_true', Bool.not_true, Bool.not_false, ne_eq, Decidable.not_not]; omega), ?_⟩)
      refine ⟨(done ++ [true], rest), ?_⟩
      simp [cT_snoc, bkD, D.pure, D.pleaf]
      omega
    | false =>
      refine round0 (C := cfgH lawC12 hF) (ctrs_ok lawC12 rfl rfl) (by kernel_rfl) (by kernel_rfl) (q := decide ((↑done.length : Int) < (↑(done ++ false :: rest).length : Int)) = true ∧ ∃ (y : Bool), (0 : Int) ≤ (↑done.length : Int) ∧ (List.map bD (done ++ false :: rest))[(↑done.length : Int).toNat]? = some (D.bool y) ∧ (rI (cT done) ∧ rI (↑done.length : Int)) ∧ True ∧ y = false ∧ (rI (noteB (cT done) (↑done.length : Int) y).fst ∧ rI (noteB (cT done) (↑done.length : Int) y).snd) ∧ inK IntKind.i64 ((↑done.length : Int) + (1 : Int)) ∧ decide ((noteB (cT done) (↑done.length : Int) y).snd ≠ (↑done.length : Int) + (1 : Int)) = false ∧ decide ((noteB (cT done) (↑done.length : Int) y).fst ≠ cT done) = false ∧ decide (rateB (noteB (cT done) (↑done.length : Int) y).fst (noteB (cT done) (↑done.length : Int) y).snd < (0 : Int)) = false ∧ decide ((10000 : Int) < rateB (noteB (cT done) (↑done.length : Int) y).fst (noteB (cT done) (↑done.length : Int) y).snd) = false ∧ y = false ∧ (!y) = true ∧ (decide ((0 : Int) < (↑done.length : Int)) = true → decide (rateB (cT done) (↑done.length : Int) < rateB (noteB (cT done) (↑done.length : Int) y).fst (noteB (cT done) (↑done.length : Int) y).snd) = false ∧ inK IntKind.i64 ((↑done.length : Int) + (1 : Int)) ∧ (!decide (decide (rateB (noteB (cT done) (↑done.length : Int) y).fst (noteB (cT done) (↑done.length : Int) y).snd = (10000 : Int)) = decide (cT done = (↑done.length : Int) + (1 : Int)))) = false ∧ (decide (cT done = (0 : Int)) = true → decide (rateB (noteB (cT done) (↑done.length : Int) y).fst (noteB (cT done) (↑done.length : Int) y).snd ≠ (0 : Int)) = false ∧ inK IntKind.i64 ((↑done.length : Int) + (1 : Int)) ∧ ∃ (s' : (ratesL f).St), s'.fst.length + s'.snd.length ≤ (300 : Nat) ∧ s'.snd.length.succ ≤ (false :: rest).length ∧ (cT (s'.fst ++ s'.snd), (↑(s'.fst ++ s'.snd).length : Int)) = (cT (done ++ false :: rest), (↑(done ++ false :: rest).length : Int)) ∧ (D.ptr (0 : Nat) (0 : Nat) (0 : Nat) = D.ptr (0 : Nat) (0 : Nat) (0 : Nat) ∧ D.int IntKind.i64 (cT s'.fst) = D.int IntKind.i64 (cT done) ∧ D.sl f (List.map bD (s'.fst ++ s'.snd)) = D.sl f (List.map bD (done ++ false :: rest)) ∧ D.int IntKind.i64 (↑(s'.fst ++ s'.snd).length : Int) = D.int IntKind.i64 (↑(done ++ false :: rest).length : Int) ∧ D.int IntKind.i64 (↑s'.fst.length : Int) = D.int IntKind.i64 ((↑done.length : Int) + (1 : Int))) ∧ (some (Ob.row St.own (2 : Nat) [D.agg [D.int IntKind.i64 (cT s'.fst), D.int IntKind.i64 (↑s'.fst.length : Int)]]) = none ∨ some (Ob.row St.own (2 : Nat) [D.agg [D.int IntKind.i64 (cT s'.fst), D.int IntKind.i64 (↑s'.fst.length : Int)]]) = some (Ob.row St.own (2 : Nat) [D.agg [D.int IntKind.i64 (noteB (cT done) (↑done.length : Int) y).fst, D.int IntKind.i64 (noteB (cT done) (↑done.length : Int) y).snd]]) ∧ true = true)) ∧ (decide (cT done = (0 : Int)) = false → inK IntKind.i64 ((↑done.length : Int) + (1 : Int)) ∧ ∃ (s' : (ratesL f).St), s'.fst.length + s'.snd.length ≤ (300 : Nat) ∧ s'.snd.length.succ ≤ (false :: rest).length ∧ (cT (s'.fst ++ s'.snd), (↑(s'.fst ++ s'.snd).length : Int)) = (cT (done ++ false :: rest), (↑(done ++ false :: rest).length : Int)) ∧ (D.ptr (0 : Nat) (0 : Nat) (0 : Nat) = D.ptr (0 : Nat) (0 : Nat) (0 : Nat) ∧ D.int IntKind.i64 (cT s'.fst) = D.int IntKind.i64 (cT done) ∧ D.sl f (List.map bD (s'.fst ++ s'.snd)) = D.sl f (List.map bD (done ++ false :: rest)) ∧ D.int IntKind.i64 (↑(s'.fst ++ s'.snd).length : Int) = D.int IntKind.i64 (↑(done ++ false :: rest).length : Int) ∧ D.int IntKind.i64 (↑s'.fst.length : Int) = D.int IntKind.i64 ((↑done.length : Int) + (1 : Int))) ∧ (some (Ob.row St.own (2 : Nat) [D.agg [D.int IntKind.i64 (cT s'.fst), D.int IntKind.i64 (↑s'.fst.length : Int)]]) = none ∨ some (Ob.row St.own (2 : Nat) [D.agg [D.int IntKind.i64 (cT s'.fst), D.int IntKind.i64 (↑s'.fst.length : Int)]]) = some (Ob.row St.own (2 : Nat) [D.agg [D.int IntKind.i64 (noteB (cT done) (↑done.length : Int) y).fst, D.int IntKind.i64 (noteB (cT done) (↑done.length : Int) y).snd]]) ∧ true = true))) ∧ (decide ((0 : Int) < (↑done.length : Int)) = false → inK IntKind.i64 ((↑done.length : Int) + (1 : Int)) ∧ (!decide (decide (rateB (noteB (cT done) (↑done.length : Int) y).fst (noteB (cT done) (↑done.length : Int) y).snd = (10000 : Int)) = decide (cT done = (↑done.length : Int) + (1 : Int)))) = false ∧ (decide (cT done = (0 : Int)) = true → decide (rateB (noteB (cT done) (↑done.length : Int) y).fst (noteB (cT done) (↑done.length : Int) y).snd ≠ (0 : Int)) = false ∧ inK IntKind.i64 ((↑done.length : Int) + (1 : Int)) ∧ ∃ (s' : (ratesL f).St), s'.fst.length + s'.snd.length ≤ (300 : Nat) ∧ s'.snd.length.succ ≤ (false :: rest).length ∧ (cT (s'.fst ++ s'.snd), (↑(s'.fst ++ s'.snd).length : Int)) = (cT (done ++ false :: rest), (↑(done ++ false :: rest).length : Int)) ∧ (D.ptr (0 : Nat) (0 : Nat) (0 : Nat) = D.ptr (0 : Nat) (0 : Nat) (0 : Nat) ∧ D.int IntKind.i64 (cT s'.fst) = D.int IntKind.i64 (cT done) ∧ D.sl f (List.map bD (s'.fst ++ s'.snd)) = D.sl f (List.map bD (done ++ false :: rest)) ∧ D.int IntKind.i64 (↑(s'.fst ++ s'.snd).length : Int) = D.int IntKind.i64 (↑(done ++ false :: rest).length : Int) ∧ D.int IntKind.i64 (↑s'.fst.length : Int) = D.int IntKind.i64 ((↑done.length : Int) + (1 : Int))) ∧ (some (Ob.row St.own (2 : Nat) [D.agg [D.int IntKind.i64 (cT s'.fst), D.int IntKind.i64 (↑s'.fst.length : Int)]]) = none ∨ some (Ob.row St.own (2 : Nat) [D.agg [D.int IntKind.i64 (cT s'.fst), D.int IntKind.i64 (↑s'.fst.length : Int)]]) = some (Ob.row St.own (2 : Nat) [D.agg [D.int IntKind.i64 (noteB (cT done) (↑done.length : Int) y).fst, D.int IntKind.i64 (noteB (cT done) (↑done.length : Int) y).snd]]) ∧ true = true)) ∧ (decide (cT done = (0 : Int)) = false → inK IntKind.i64 ((↑done.length : Int) + (1 : Int)) ∧ ∃ (s' : (ratesL f).St), s'.fst.length + s'.snd.length ≤ (300 : Nat) ∧ s'.snd.length.succ ≤ (false :: rest).length ∧ (cT (s'.fst ++ s'.snd), (↑(s'.fst ++ s'.snd).length : Int)) = (cT (done ++ false :: rest), (↑(done ++ false :: rest).length : Int)) ∧ (D.ptr (0 : Nat) (0 : Nat) (0 : Nat) = D.ptr (0 : Nat) (0 : Nat) (0 : Nat) ∧ D.int IntKind.i64 (cT s'.fst) = D.int IntKind.i64 (cT done) ∧ D.sl f (List.map bD (s'.fst ++ s'.snd)) = D.sl f (List.map bD (done ++ false :: rest)) ∧ D.int IntKind.i64 (↑(s'.fst ++ s'.snd).length : Int) = D.int IntKind.i64 (↑(done ++ false :: rest).length : Int) ∧ D.int IntKind.i64 (↑s'.fst.length : Int) = D.int IntKind.i64 ((↑done.length : Int) + (1 : Int))) ∧ (some (Ob.row St.own (2 : Nat) [D.agg [D.int IntKind.i64 (cT s'.fst), D.int IntKind.i64 (↑s'.fst.length : Int)]]) = none ∨ some (Ob.row St.own (2 : Nat) [D.agg [D.int IntKind.i64 (cT s'.fst), D.int IntKind.i64 (↑s'.fst.length : Int)]]) = some (Ob.row St.own (2 : Nat) [D.agg [D.int IntKind.i64 (noteB (cT done) (↑done.length : Int) y).fst, D.int IntKind.i64 (noteB (cT done) (↑done.length : Int) y).snd]]) ∧ true = true)))) (by kernel_rfl) ?_
      refine ⟨by simp; omega, false, by omega, get_midI bD _ _ _, ?_⟩
      have r2 := rateB_in (o := cT done) (n := done.length + 1) (by omega) (by omega) (by omega)
      have r4 := rateB_all (o := cT done) (n := done.length + 1) (by omega) (by omega) (by omega) (by omega)
      rw [noteB_ok _ hc.1 hc.2 (by omega)]
      simp only [inK, rI, true_and, Bool.false_eq_true, eq_self, if_true, if_false, Bool.not_true, Bool.not_false, decide_eq_false_iff_not, decide_eq_true_eq, ne_eq, Decidable.not_not]
      have r3 := fun h => rateB_dn hc.1 hc.2 (show (done.length : Int) ≤ 300 by omega) h
      have r5 : cT done = 0 → rateB (cT done) (done.length + 1) = 0 := by intro h; rw [h, rateB_ok (by omega) (by omega) (by omega) (by omega)]; simp
      repeat (refine ⟨by first | omega | rfl | trivial | (simp only [D.bool.injEq, D.int.injEq, D.tup.injEq, D.agg.injEq, D.str.injEq, D.sl.injEq, List.cons.injEq, true_and, and_true, decide_eq_true_eq, decide_eq_false_iff_not, false_eq_decide_iff, true_eq_decide_iff, decide_eq_decide, Bool.false_eq_true, Bool.true_eq_false, not_false_eq_true, not_true_eq_false, inK, rI, Bool.not_eq_false', Bool.not_eq_true', Bool.not_true, Bool.not_false, ne_eq, Decidable.not_not]; omega), ?_⟩)
      refine ⟨fun hn => ?_, fun hn => ?_⟩
      · have r3 := r3 hn
        repeat (refine ⟨by first | omega | rfl | trivial | (simp only [D.bool.injEq, D.int.injEq, D.tup.injEq, D.agg.injEq, D.str.injEq, D.sl.injEq, List.cons.injEq, true_and, and_true, decide_eq_true_eq, decide_eq_false_iff_not, false_eq_decide_iff, true_eq_decide_iff, decide_eq_decide, Bool.false_eq_true, Bool.true_eq_false, not_false_eq_true, not_true_eq_false, inK, rI, Bool.not_eq_false', Bool.not_eq_true', Bool.not_true, Bool.not_false, ne_eq, Decidable.not_not]; omega), ?_⟩)
        refine ⟨fun h0 => ?_, fun h0 => ?_⟩
        all_goals
          try have r5 := r5 h0
          repeat (refine ⟨by first | omega | rfl | trivial | (simp only [D.bool.injEq, D.int.injEq, D.tup.injEq, D.agg.injEq, D.str.injEq, D.sl.injEq, List.cons.injEq, true_and, and_true, decide_eq_true_eq, decide_eq_false_iff_not, false_eq_decide_iff, true_eq_decide_iff, decide_eq_decide, Bool.false_eq_true, Bool.true_eq_false, not_false_eq_true, not_true_eq_false, inK, rI, Bool.not_eq_false', Bool.not_eq_true', Bool.not_true, Bool.not_false, ne_eq, Decidable.not_not]; omega), ?_⟩)
          refine ⟨(done ++ [false], rest), ?_⟩
          simp [cT_snoc, bkD, D.pure, D.pleaf]
          omega
      · repeat (refine ⟨by first | omega | rfl | trivial | (simp only [D.bool.injEq, D.int.injEq, D.tup.injEq, D.agg.injEq, D.str.injEq, D.sl.injEq, List.cons.injEq, true_and, and_true, decide_eq_true_eq, decide_eq_false_iff_not, false_eq_decide_iff, true_eq_decide_iff, decide_eq_decide, Bool.false_eq_true, Bool.true_eq_false, not_false_eq_true, not_true_eq_false, inK, rI, Bool.not_eq_false', Bool.not_eq_true', Bool.not_true, Bool.not_false, ne_eq, Decidable.not_not]; omega), ?_⟩)
        refine ⟨fun h0 => ?_, fun h0 => ?_⟩
        · have r5 := r5 h0
          repeat (refine ⟨by first | omega | rfl | trivial | (simp only [D.bool.injEq, D.int.injEq, D.tup.injEq, D.agg.injEq, D.str.injEq, D.sl.injEq, List.cons.injEq, true_and, and_true, decide_eq_true_eq, decide_eq_false_iff_not, false_eq_decide_iff, true_eq_decide_iff, decide_eq_decide, Bool.false_eq_true, Bool.true_eq_false, not_false_eq_true, not_true_eq_false, inK, rI, Bool.not_eq_false', Bool.not_eq_true', Bool.not_true, Bool.not_false, ne_eq, Decidable.not_not]; omega), ?_⟩)
          refine ⟨(done ++ [false], rest), ?_⟩
          simp [cT_snoc, bkD, D.pure, D.pleaf]
          omega
        · exfalso; omega
def ratesCfg (f : Bool) : WCfg := { cfgH lawC12 [(12, .f), (93, .t)] with loops := fun k => match k with | 6 => some ((ratesL f).row [(0, true)]) | _ => none }
theorem ratesBN (f : Bool) (l : List Bool) (hl : l.length ≤ 300) : decide ((300 : Int) < (↑(List.map bD l).length : Int)) = false ∧ ∃ (b : List Bool × List Bool), b.fst.length + b.snd.length ≤ (300 : Nat) ∧ ((D.ptr (0 : Nat) (0 : Nat) (0 : Nat) = D.ptr (0 : Nat) (0 : Nat) (0 : Nat) ∧ D.int IntKind.i64 (cT b.fst) = D.int IntKind.i64 (0 : Int) ∧ D.sl f (List.map bD (b.fst ++ b.snd)) = D.sl f (List.map bD l) ∧ D.int IntKind.i64 (↑(b.fst ++ b.snd).length : Int) = D.int IntKind.i64 (↑(List.map bD l).length : Int) ∧ D.int IntKind.i64 (↑b.fst.length : Int) = D.int IntKind.i64 (0 : Int)) ∧ (some (Ob.row St.own (2 : Nat) [D.agg [D.int IntKind.i64 (cT b.fst), D.int IntKind.i64 (↑b.fst.length : Int)]]) = none ∨ some (Ob.row St.own (2 : Nat) [D.agg [D.int IntKind.i64 (cT b.fst), D.int IntKind.i64 (↑b.fst.length : Int)]]) = some (Ob.row St.own (2 : Nat) [D.agg [D.int IntKind.i64 (0 : Int), D.int IntKind.i64 (0 : Int)]]) ∧ true = true)) ∧ ∀ (a : Int × Int), (cT (b.fst ++ b.snd), (↑(b.fst ++ b.snd).length : Int)) = a → True ∧ mayB a.fst a.snd = true ∧ True ∧ D.bool true = D.bool true := by
  have hc := cT_le l
  have hm : mayB (cT l) l.length = true := decide_eq_true ⟨hc.1, hc.2, by omega⟩
  refine ⟨by simp; omega, ([], l), by simpa using hl, ⟨⟨rfl, rfl, rfl, by simp, rfl⟩, .inr ⟨rfl, rfl⟩⟩, ?_⟩
  rintro a rfl
  exact ⟨trivial, hm, trivial, rfl⟩
theorem ratesBig (f : Bool) (l : List Bool) (hl : 300 < l.length) : decide ((300 : Int) < (↑(List.map bD l).length : Int)) = true ∧ True ∧ D.bool true = D.bool true := ⟨by simp; omega, trivial, rfl⟩
theorem bucketRates_law {x0 : List D} (o0 : Ok [.sl false [.bool]] x0) : DataFun Try.prog 10 [vOf false x0] (.bool true) := by
  cases o0 with | sl hl h1 h2 t =>
  cases t
  obtain ⟨l, rfl⟩ := ok_bools h1 h2
  rename_i f
  rcases Nat.lt_or_ge 300 l.length with h | h
  · exact dataFunL (C := cfgH lawC12 [(12, .t)]) (ctrs_ok lawC12 rfl rfl) rfl Try.func10 (by kernel_rfl) (l := [lp Try.f10 6]) (by kernel_rfl) (fun x _ row hr => by cases hr) (by kernel_rfl) (by kernel_rfl) (by kernel_rfl) (ratesBig f l h)
  · refine dataFunL (C := ratesCfg f) (ctrs_ok lawC12 rfl rfl) rfl Try.func10 (by kernel_rfl) (l := [lp Try.f10 6]) (by kernel_rfl) ?_ (by kernel_rfl) (by kernel_rfl) (by kernel_rfl) (ratesBN f l h)
    intro x hx
    rw [List.mem_singleton.1 hx]
    exact (ratesL f).fits 6 [(0, true)] (by kernel_rfl) rfl (ratesR f)
theorem bucketForms_law {x0 : List D} (o0 : Ok [.int .i64, .int .i64] x0) {x1 : List D} (o1 : Ok [.bool] x1) {x2 : List D} (o2 : Ok [.int .i64] x2) {x3 : List D} (o3 : Ok [.int .i64] x3) : DataFun Try.prog 9 [vOf true x0, vOf false x1, vOf false x2, vOf false x3] (.bool true) := by
  cases o0 with | int h0 t0 => cases t0 with | int h1 t1 => cases t1; obtain ⟨x, rfl⟩ := ok1_bool o1; cases o2 with | int h2 t2 => cases t2; cases o3 with | int h3 t3 => cases t3; exact dataFun0 (C := cfgOf lawC12) (ctrs_ok lawC12 rfl rfl) rfl Try.func9 (by kernel_rfl) (by kernel_rfl) (by kernel_rfl) (by kernel_rfl) (by kernel_rfl) (formsBN (x := x) (wf_i64 h0) (wf_i64 h1) (wf_i64 h2) (wf_i64 h3))
theorem bucketFails_law {x0 : List D} (o0 : Ok [.int .i64, .int .i64] x0) {x1 : List D} (o1 : Ok [.int .i64] x1) {x2 : List D} (o2 : Ok [.int .i64] x2) : DataFun Try.prog 11 [vOf true x0, vOf false x1, vOf false x2] (.bool true) := by
  cases o0 with | int h0 t0 => cases t0 with | int h1 t1 => cases t1; cases o1 with | int h2 t2 => cases t2; cases o2 with | int h3 t3 => cases t3; exact dataFun0 (C := cfgH lawC12 [(34, .w), (39, .w), (35, .n), (40, .n)]) (ctrs_ok lawC12 rfl rfl) rfl Try.func11 (by kernel_rfl) (by kernel_rfl) (by kernel_rfl) (by kernel_rfl) (by kernel_rfl) (failsBN (wf_i64 h0) (wf_i64 h1) (wf_i64 h2) (wf_i64 h3))
end Go.Proofs.Ytfjgngdomjjpgaa.Dv
