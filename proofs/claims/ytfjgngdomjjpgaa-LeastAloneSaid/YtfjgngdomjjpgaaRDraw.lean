/- A draw, and the statement on draws. -/
import Derived.Test.YtfjgngdomjjpgaaRBase
import Derived.Test.YtfjgngdomjjpgaaRows
set_option linter.unusedVariables false
set_option linter.unusedSimpArgs false
namespace Go.Proofs.Ytfjgngdomjjpgaa.Dv
open Go Go.Proofs
theorem noSpec : SpecOk Try.prog M1 (fun _ _ => none) := by intro g vs ts r h; cases h
def draw (d n : Int) : Int := if n < 1 then 0 else if d.tmod n < 0 then IntKind.wrap IntKind.i64 (d.tmod n + n) else d.tmod n
theorem calm59 : calmFn Try.f59 = true := by kernel_rfl
theorem draw_fun (d n : Int) : Fun Try.prog M1 59 [.int .i64 d, .int .i64 n] (.int .i64 (draw d n)) := by
  rcases Bool.eq_false_or_eq_true (decide (n < 1)) with h6 | h6
  · -- true
    have e : (D.int IntKind.i64 0 : D) = (.int .i64 (draw d n)) := by (simp_all [draw] <;> omega)
    rw [← e]
    exact path noSpec (by kernel_rfl) rfl rfl Try.func59 (by kernel_rfl) calm59 [{ tag := 6, a := AnsK.b true }] (ts := [decide (n < 1) = true]) (by kernel_rfl) ⟨(by first | assumption | decide | (simp only [decide_eq_true_eq, decide_eq_false_iff_not, ne_eq] at *; omega)), trivial⟩
  · -- false
    obtain ⟨v9, hv9⟩ : ∃ v : Int, Int.tmod d n = v := ⟨_, rfl⟩
    rcases Bool.eq_false_or_eq_true (decide (v9 < 0)) with h11 | h11
    · -- true
      obtain ⟨v14, hv14⟩ : ∃ v : Int, IntKind.wrap IntKind.i64 (v9 + n) = v := ⟨_, rfl⟩
      have e : (D.int IntKind.i64 v14 : D) = (.int .i64 (draw d n)) := by (simp_all [draw] <;> omega)
      rw [← e]
      exact path noSpec (by kernel_rfl) rfl rfl Try.func59 (by kernel_rfl) calm59 [{ tag := 6, a := AnsK.b false }, { tag := 9, a := AnsK.ok }, { tag := 9, a := AnsK.si v9 }, { tag := 11, a := AnsK.b true }, { tag := 14, a := AnsK.si v14 }] (ts := [decide (n < 1) = false, n ≠ 0, Int.tmod d n = v9, decide (v9 < 0) = true, IntKind.wrap IntKind.i64 (v9 + n) = v14]) (by kernel_rfl) ⟨(by first | assumption | decide | (simp only [decide_eq_true_eq, decide_eq_false_iff_not, ne_eq] at *; omega)), (by first | assumption | decide | (simp only [decide_eq_true_eq, decide_eq_false_iff_not, ne_eq] at *; omega)), (by first | assumption | decide | (simp only [decide_eq_true_eq, decide_eq_false_iff_not, ne_eq] at *; omega)), (by first | assumption | decide | (simp only [decide_eq_true_eq, decide_eq_false_iff_not, ne_eq] at *; omega)), (by first | assumption | decide | (simp only [decide_eq_true_eq, decide_eq_false_iff_not, ne_eq] at *; omega)), trivial⟩
    · -- false
      have e : (D.int IntKind.i64 v9 : D) = (.int .i64 (draw d n)) := by (simp_all [draw] <;> omega)
      rw [← e]
      exact path noSpec (by kernel_rfl) rfl rfl Try.func59 (by kernel_rfl) calm59 [{ tag := 6, a := AnsK.b false }, { tag := 9, a := AnsK.ok }, { tag := 9, a := AnsK.si v9 }, { tag := 11, a := AnsK.b false }] (ts := [decide (n < 1) = false, n ≠ 0, Int.tmod d n = v9, decide (v9 < 0) = false]) (by kernel_rfl) ⟨(by first | assumption | decide | (simp only [decide_eq_true_eq, decide_eq_false_iff_not, ne_eq] at *; omega)), (by first | assumption | decide | (simp only [decide_eq_true_eq, decide_eq_false_iff_not, ne_eq] at *; omega)), (by first | assumption | decide | (simp only [decide_eq_true_eq, decide_eq_false_iff_not, ne_eq] at *; omega)), (by first | assumption | decide | (simp only [decide_eq_true_eq, decide_eq_false_iff_not, ne_eq] at *; omega)), trivial⟩
  -- 3 paths

theorem awake1 : Fun Try.prog M1 50 [] (.bool true) := Fun_of_runN 60 rfl rfl (by kernel_rfl)
end Go.Proofs.Ytfjgngdomjjpgaa.Dv
