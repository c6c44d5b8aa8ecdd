/- The less busy of two: what its functions make. -/
import Derived.Test.YtfjgngdomjjpgaaRCompares
set_option linter.unusedVariables false
set_option linter.unusedSimpArgs false
namespace Go.Proofs.Ytfjgngdomjjpgaa.Dv
open Go Go.Proofs
def opn (a : Int) : Int := min (max a 0) 4611686018427387904 + 1
theorem opn_lt (a : Int) : 1 ≤ opn a ∧ opn a < 9223372036854775808 := by unfold opn; omega
def lessI (i w a j v b : Int) : Bool := if cmpI (pr (opn a) (max v 1)) (pr (opn b) (max w 1)) < 0 then true else if cmpI (pr (opn a) (max v 1)) (pr (opn b) (max w 1)) = 0 then decide (i < j) else false
def twoI (n a b : Int) : Int × Int := if n < 2 then (0, 0) else if draw a n ≤ draw b (IntKind.wrap IntKind.i64 (n - 1)) then (draw a n, IntKind.wrap IntKind.i64 (draw b (IntKind.wrap IntKind.i64 (n - 1)) + 1)) else (draw a n, draw b (IntKind.wrap IntKind.i64 (n - 1)))
theorem calm66 : calmFn Try.f66 = true := by kernel_rfl
theorem calm32 : calmFn Try.f32 = true := by kernel_rfl
theorem calm30 : calmFn Try.f30 = true := by kernel_rfl
theorem open_fun (i w a : Int) : Fun Try.prog M1 66 [.agg [.int .i64 i, .int .i64 w, .int .i64 a]] (.int .i64 (opn a)) := by
  obtain ⟨v5, hv5⟩ : ∃ z_ : Int, max a (0 : Int) = z_ := ⟨_, rfl⟩
  obtain ⟨v6, hv6⟩ : ∃ z_ : Int, min v5 (4611686018427387904 : Int) = z_ := ⟨_, rfl⟩
  obtain ⟨v7, hv7⟩ : ∃ z_ : Int, IntKind.wrap IntKind.i64 (v6 + (1 : Int)) = z_ := ⟨_, rfl⟩
  have mv7 : v7 = (v6 + (1 : Int) + 9223372036854775808) % 18446744073709551616 - 9223372036854775808 := by rw [← hv7]; exact wrapI _
  have e : (D.int IntKind.i64 v7 : D) = (.int .i64 (opn a)) := by (refine congrArg (D.int .i64) ?_; unfold opn; omega)
  rw [← e]
  exact path noSpec (by kernel_rfl) rfl rfl Try.func66 (by kernel_rfl) calm66 [{ tag := (5 : Nat), a := AnsK.si v5 }, { tag := (6 : Nat), a := AnsK.si v6 }, { tag := (7 : Nat), a := AnsK.si v7 }] (ts := [max a (0 : Int) = v5, min v5 (4611686018427387904 : Int) = v6, IntKind.wrap IntKind.i64 (v6 + (1 : Int)) = v7]) (by kernel_rfl) ⟨(by first | assumption | decide | omega | (simp only [decide_eq_true_eq, decide_eq_false_iff_not, ne_eq] at *; omega)), (by first | assumption | decide | omega | (simp only [decide_eq_true_eq, decide_eq_false_iff_not, ne_eq] at *; omega)), (by first | assumption | decide | omega | (simp only [decide_eq_true_eq, decide_eq_false_iff_not, ne_eq] at *; omega)), trivial⟩
  -- 1 paths

def leastSpec (f : FuncId) (vs : List D) : Option (List Prop × D) := match f, vs with
  | 53, [.int .i64 a, .int .i64 b, .int .i64 c, .int .i64 d] => some ([a < 9223372036854775808, b < 9223372036854775808, c < 9223372036854775808, d < 9223372036854775808], .int .i64 (cmpI (pr a b) (pr c d)))
  | 66, [.agg [.int .i64 _, .int .i64 _, .int .i64 a]] => some ([], .int .i64 (opn a))
  | 59, [.int .i64 d, .int .i64 n] => some ([], .int .i64 (draw d n))
  | 50, [] => some ([], .bool true)
  | _, _ => none
theorem leastOkS : SpecOk Try.prog M1 leastSpec := by
  intro g vs ts r h ha
  unfold leastSpec at h
  split at h
  · injection h with h; injection h with h1 h2; subst h1 h2; exact cmp_fun ha.1 ha.2.1 ha.2.2.1 ha.2.2.2.1
  · injection h with h; injection h with h1 h2; subst h1 h2; exact open_fun _ _ _
  · injection h with h; injection h with h1 h2; subst h1 h2; exact draw_fun _ _
  · injection h with h; injection h with h1 h2; subst h1 h2; exact awake1
  · cases h
theorem less_fun {i w a j v b : Int} (hw : w < 9223372036854775808) (hv : v < 9223372036854775808) : Fun Try.prog M1 32 [.agg [.int .i64 i, .int .i64 w, .int .i64 a], .agg [.int .i64 j, .int .i64 v, .int .i64 b]] (.bool (lessI i w a j v b)) := by
  obtain ⟨v7, hv7⟩ : ∃ z_ : Int, opn a = z_ := ⟨_, rfl⟩
  have g7 := opn_lt a
  obtain ⟨v10, hv10⟩ : ∃ z_ : Int, max v (1 : Int) = z_ := ⟨_, rfl⟩
  obtain ⟨v12, hv12⟩ : ∃ z_ : Int, opn b = z_ := ⟨_, rfl⟩
  have g12 := opn_lt b
  obtain ⟨v15, hv15⟩ : ∃ z_ : Int, max w (1 : Int) = z_ := ⟨_, rfl⟩
  obtain ⟨v16, hv16⟩ : ∃ z_ : Int, cmpI (pr v7 v10) (pr v12 v15) = z_ := ⟨_, rfl⟩
  have mv16 := cmpI_cases (pr v7 v10) (pr v12 v15); rw [hv16] at mv16
  rcases Bool.eq_false_or_eq_true (decide (v16 < (0 : Int))) with h19 | h19
  · -- true
    have e : (D.bool true : D) = (.bool (lessI i w a j v b)) := by (refine congrArg D.bool ?_; simp only [decide_eq_true_eq, decide_eq_false_iff_not] at *; subst_vars; unfold lessI; (repeat' split) <;> first | rfl | (exfalso; omega))
    rw [← e]
    exact path leastOkS (by kernel_rfl) rfl rfl Try.func32 (by kernel_rfl) calm32 [{ tag := (7 : Nat), a := AnsK.si v7 }, { tag := (10 : Nat), a := AnsK.si v10 }, { tag := (12 : Nat), a := AnsK.si v12 }, { tag := (15 : Nat), a := AnsK.si v15 }, { tag := (16 : Nat), a := AnsK.si v16 }, { tag := (19 : Nat), a := AnsK.b true }] (ts := [opn a = v7, max v (1 : Int) = v10, opn b = v12, max w (1 : Int) = v15, v7 < (9223372036854775808 : Int), v10 < (9223372036854775808 : Int), v12 < (9223372036854775808 : Int), v15 < (9223372036854775808 : Int), cmpI (pr v7 v10) (pr v12 v15) = v16, decide (v16 < (0 : Int)) = true]) (by kernel_rfl) ⟨(by first | assumption | decide | omega | (simp only [decide_eq_true_eq, decide_eq_false_iff_not, ne_eq] at *; omega)), (by first | assumption | decide | omega | (simp only [decide_eq_true_eq, decide_eq_false_iff_not, ne_eq] at *; omega)), (by first | assumption | decide | omega | (simp only [decide_eq_true_eq, decide_eq_false_iff_not, ne_eq] at *; omega)), (by first | assumption | decide | omega | (simp only [decide_eq_true_eq, decide_eq_false_iff_not, ne_eq] at *; omega)), (by first | assumption | decide | omega | (simp only [decide_eq_true_eq, decide_eq_false_iff_not, ne_eq] at *; omega)), (by first | assumption | decide | omega | (simp only [decide_eq_true_eq, decide_eq_false_iff_not, ne_eq] at *; omega)), (by first | assumption | decide | omega | (simp only [decide_eq_true_eq, decide_eq_false_iff_not, ne_eq] at *; omega)), (by first | assumption | decide | omega | (simp only [decide_eq_true_eq, decide_eq_false_iff_not, ne_eq] at *; omega)), (by first | assumption | decide | omega | (simp only [decide_eq_true_eq, decide_eq_false_iff_not, ne_eq] at *; omega)), (by first | assumption | decide | omega | (simp only [decide_eq_true_eq, decide_eq_false_iff_not, ne_eq] at *; omega)), trivial⟩
  · -- false
    rcases Bool.eq_false_or_eq_true (decide (v16 = (0 : Int))) with h22 | h22
    · -- true
      have e : (D.bool (decide (i < j)) : D) = (.bool (lessI i w a j v b)) := by (refine congrArg D.bool ?_; simp only [decide_eq_true_eq, decide_eq_false_iff_not] at *; subst_vars; unfold lessI; (repeat' split) <;> first | rfl | (exfalso; omega))
      rw [← e]
      exact path leastOkS (by kernel_rfl) rfl rfl Try.func32 (by kernel_rfl) calm32 [{ tag := (7 : Nat), a := AnsK.si v7 }, { tag := (10 : Nat), a := AnsK.si v10 }, { tag := (12 : Nat), a := AnsK.si v12 }, { tag := (15 : Nat), a := AnsK.si v15 }, { tag := (16 : Nat), a := AnsK.si v16 }, { tag := (19 : Nat), a := AnsK.b false }, { tag := (22 : Nat), a := AnsK.b true }] (ts := [opn a = v7, max v (1 : Int) = v10, opn b = v12, max w (1 : Int) = v15, v7 < (9223372036854775808 : Int), v10 < (9223372036854775808 : Int), v12 < (9223372036854775808 : Int), v15 < (9223372036854775808 : Int), cmpI (pr v7 v10) (pr v12 v15) = v16, decide (v16 < (0 : Int)) = false, decide (v16 = (0 : Int)) = true]) (by kernel_rfl) ⟨(by first | assumption | decide | omega | (simp only [decide_eq_true_eq, decide_eq_false_iff_not, ne_eq] at *; omega)), (by first | assumption | decide | omega | (simp only [decide_eq_true_eq, decide_eq_false_iff_not, ne_eq] at *; omega)), (by first | assumption | decide | omega | (simp only [decide_eq_true_eq, decide_eq_false_iff_not, ne_eq] at *; omega)), (by first | assumption | decide | omega | (simp only [decide_eq_true_eq, decide_eq_false_iff_not, ne_eq] at *; omega)), (by first | assumption | decide | omega | (simp only [decide_eq_true_eq, decide_eq_false_iff_not, ne_eq] at *; omega)), (by first | assumption | decide | omega | (simp only [decide_eq_true_eq, decide_eq_false_iff_not, ne_eq] at *; omega)), (by first | assumption | decide | omega | (simp only [decide_eq_true_eq, decide_eq_false_iff_not, ne_eq] at *; omega)), (by first | assumption | decide | omega | (simp only [decide_eq_true_eq, decide_eq_false_iff_not, ne_eq] at *; omega)), (by first | assumption | decide | omega | (simp only [decide_eq_true_eq, decide_eq_false_iff_not, ne_eq] at *; omega)), (by first | assumption | decide | omega | (simp only [decide_eq_true_eq, decide_eq_false_iff_not, ne_eq] at *; omega)), (by first | assumption | decide | omega | (simp only [decide_eq_true_eq, decide_eq_false_iff_not, ne_eq] at *; omega)), trivial⟩
    · -- false
      have e : (D.bool false : D) = (.bool (lessI i w a j v b)) := by (refine congrArg D.bool ?_; simp only [decide_eq_true_eq, decide_eq_false_iff_not] at *; subst_vars; unfold lessI; (repeat' split) <;> first | rfl | (exfalso; omega))
      rw [← e]
      exact path leastOkS (by kernel_rfl) rfl rfl Try.func32 (by kernel_rfl) calm32 [{ tag := (7 : Nat), a := AnsK.si v7 }, { tag := (10 : Nat), a := AnsK.si v10 }, { tag := (12 : Nat), a := AnsK.si v12 }, { tag := (15 : Nat), a := AnsK.si v15 }, { tag := (16 : Nat), a := AnsK.si v16 }, { tag := (19 : Nat), a := AnsK.b false }, { tag := (22 : Nat), a := AnsK.b false }] (ts := [opn a = v7, max v (1 : Int) = v10, opn b = v12, max w (1 : Int) = v15, v7 < (9223372036854775808 : Int), v10 < (9223372036854775808 : Int), v12 < (9223372036854775808 : Int), v15 < (9223372036854775808 : Int), cmpI (pr v7 v10) (pr v12 v15) = v16, decide (v16 < (0 : Int)) = false, decide (v16 = (0 : Int)) = false]) (by kernel_rfl) ⟨(by first | assumption | decide | omega | (simp only [decide_eq_true_eq, decide_eq_false_iff_not, ne_eq] at *; omega)), (by first | assumption | decide | omega | (simp only [decide_eq_true_eq, decide_eq_false_iff_not, ne_eq] at *; omega)), (by first | assumption | decide | omega | (simp only [decide_eq_true_eq, decide_eq_false_iff_not, ne_eq] at *; omega)), (by first | assumption | decide | omega | (simp only [decide_eq_true_eq, decide_eq_false_iff_not, ne_eq] at *; omega)), (by first | assumption | decide | omega | (simp only [decide_eq_true_eq, decide_eq_false_iff_not, ne_eq] at *; omega)), (by first | assumption | decide | omega | (simp only [decide_eq_true_eq, decide_eq_false_iff_not, ne_eq] at *; omega)), (by first | assumption | decide | omega | (simp only [decide_eq_true_eq, decide_eq_false_iff_not, ne_eq] at *; omega)), (by first | assumption | decide | omega | (simp only [decide_eq_true_eq, decide_eq_false_iff_not, ne_eq] at *; omega)), (by first | assumption | decide | omega | (simp only [decide_eq_true_eq, decide_eq_false_iff_not, ne_eq] at *; omega)), (by first | assumption | decide | omega | (simp only [decide_eq_true_eq, decide_eq_false_iff_not, ne_eq] at *; omega)), (by first | assumption | decide | omega | (simp only [decide_eq_true_eq, decide_eq_false_iff_not, ne_eq] at *; omega)), trivial⟩
  -- 3 paths

theorem two_fun (n a b : Int) : Fun Try.prog M1 30 [.int .i64 n, .int .i64 a, .int .i64 b] (.tup [.int .i64 (twoI n a b).1, .int .i64 (twoI n a b).2]) := by
  rcases Bool.eq_false_or_eq_true (decide (n < (2 : Int))) with h11 | h11
  · -- true
    have e : (D.tup [D.int IntKind.i64 (0 : Int), D.int IntKind.i64 (0 : Int)] : D) = (.tup [.int .i64 (twoI n a b).1, .int .i64 (twoI n a b).2]) := by (simp only [decide_eq_true_eq, decide_eq_false_iff_not] at *; subst_vars; unfold twoI; (repeat' split) <;> first | rfl | (exfalso; omega))
    rw [← e]
    exact path leastOkS (by kernel_rfl) rfl rfl Try.func30 (by kernel_rfl) calm30 [{ tag := (11 : Nat), a := AnsK.b true }] (ts := [decide (n < (2 : Int)) = true]) (by kernel_rfl) ⟨(by first | assumption | decide | omega | (simp only [decide_eq_true_eq, decide_eq_false_iff_not, ne_eq] at *; omega)), trivial⟩
  · -- false
    obtain ⟨v14, hv14⟩ : ∃ z_ : Int, draw a n = z_ := ⟨_, rfl⟩
    obtain ⟨v17, hv17⟩ : ∃ z_ : Int, IntKind.wrap IntKind.i64 (n - (1 : Int)) = z_ := ⟨_, rfl⟩
    have mv17 : v17 = (n - (1 : Int) + 9223372036854775808) % 18446744073709551616 - 9223372036854775808 := by rw [← hv17]; exact wrapI _
    obtain ⟨v18, hv18⟩ : ∃ z_ : Int, draw b v17 = z_ := ⟨_, rfl⟩
    rcases Bool.eq_false_or_eq_true (decide (v14 ≤ v18)) with h21 | h21
    · -- true
      obtain ⟨v23, hv23⟩ : ∃ z_ : Int, IntKind.wrap IntKind.i64 (v18 + (1 : Int)) = z_ := ⟨_, rfl⟩
      have mv23 : v23 = (v18 + (1 : Int) + 9223372036854775808) % 18446744073709551616 - 9223372036854775808 := by rw [← hv23]; exact wrapI _
      have e : (D.tup [D.int IntKind.i64 v14, D.int IntKind.i64 v23] : D) = (.tup [.int .i64 (twoI n a b).1, .int .i64 (twoI n a b).2]) := by (simp only [decide_eq_true_eq, decide_eq_false_iff_not] at *; subst_vars; unfold twoI; (repeat' split) <;> first | rfl | (exfalso; omega))
      rw [← e]
      exact path leastOkS (by kernel_rfl) rfl rfl Try.func30 (by kernel_rfl) calm30 [{ tag := (11 : Nat), a := AnsK.b false }, { tag := (14 : Nat), a := AnsK.si v14 }, { tag := (17 : Nat), a := AnsK.si v17 }, { tag := (18 : Nat), a := AnsK.si v18 }, { tag := (21 : Nat), a := AnsK.b true }, { tag := (23 : Nat), a := AnsK.si v23 }] (ts := [decide (n < (2 : Int)) = false, draw a n = v14, IntKind.wrap IntKind.i64 (n - (1 : Int)) = v17, draw b v17 = v18, decide (v14 ≤ v18) = true, IntKind.wrap IntKind.i64 (v18 + (1 : Int)) = v23]) (by kernel_rfl) ⟨(by first | assumption | decide | omega | (simp only [decide_eq_true_eq, decide_eq_false_iff_not, ne_eq] at *; omega)), (by first | assumption | decide | omega | (simp only [decide_eq_true_eq, decide_eq_false_iff_not, ne_eq] at *; omega)), (by first | assumption | decide | omega | (simp only [decide_eq_true_eq, decide_eq_false_iff_not, ne_eq] at *; omega)), (by first | assumption | decide | omega | (simp only [decide_eq_true_eq, decide_eq_false_iff_not, ne_eq] at *; omega)), (by first | assumption | decide | omega | (simp only [decide_eq_true_eq, decide_eq_false_iff_not, ne_eq] at *; omega)), (by first | assumption | decide | omega | (simp only [decide_eq_true_eq, decide_eq_false_iff_not, ne_eq] at *; omega)), trivial⟩
    · -- false
      have e : (D.tup [D.int IntKind.i64 v14, D.int IntKind.i64 v18] : D) = (.tup [.int .i64 (twoI n a b).1, .int .i64 (twoI n a b).2]) := by (simp only [decide_eq_true_eq, decide_eq_false_iff_not] at *; subst_vars; unfold twoI; (repeat' split) <;> first | rfl | (exfalso; omega))
      rw [← e]
      exact path leastOkS (by kernel_rfl) rfl rfl Try.func30 (by kernel_rfl) calm30 [{ tag := (11 : Nat), a := AnsK.b false }, { tag := (14 : Nat), a := AnsK.si v14 }, { tag := (17 : Nat), a := AnsK.si v17 }, { tag := (18 : Nat), a := AnsK.si v18 }, { tag := (21 : Nat), a := AnsK.b false }] (ts := [decide (n < (2 : Int)) = false, draw a n = v14, IntKind.wrap IntKind.i64 (n - (1 : Int)) = v17, draw b v17 = v18, decide (v14 ≤ v18) = false]) (by kernel_rfl) ⟨(by first | assumption | decide | omega | (simp only [decide_eq_true_eq, decide_eq_false_iff_not, ne_eq] at *; omega)), (by first | assumption | decide | omega | (simp only [decide_eq_true_eq, decide_eq_false_iff_not, ne_eq] at *; omega)), (by first | assumption | decide | omega | (simp only [decide_eq_true_eq, decide_eq_false_iff_not, ne_eq] at *; omega)), (by first | assumption | decide | omega | (simp only [decide_eq_true_eq, decide_eq_false_iff_not, ne_eq] at *; omega)), (by first | assumption | decide | omega | (simp only [decide_eq_true_eq, decide_eq_false_iff_not, ne_eq] at *; omega)), trivial⟩
  -- 3 paths

end Go.Proofs.Ytfjgngdomjjpgaa.Dv
