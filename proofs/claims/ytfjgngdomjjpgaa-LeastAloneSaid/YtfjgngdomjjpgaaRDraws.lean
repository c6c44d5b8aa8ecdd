/- The statement on draws: the law itself. -/
import Derived.Test.YtfjgngdomjjpgaaRDraw
import Derived.Test.YtfjgngdomjjpgaaDvTop
set_option linter.unusedVariables false
set_option linter.unusedSimpArgs false
namespace Go.Proofs.Ytfjgngdomjjpgaa.Dv
open Go Go.Proofs
theorem small_n (n : Int) : 1 ≤ IntKind.wrap .i64 (1 + IntKind.wrap .i64 ((IntKind.wrap .u64 n).tmod 1000)) ∧ IntKind.wrap .i64 (1 + IntKind.wrap .i64 ((IntKind.wrap .u64 n).tmod 1000)) ≤ 1000 := by
  have h : (IntKind.wrap .u64 n).tmod 1000 = (IntKind.wrap .u64 n) % 1000 := Int.tmod_eq_emod_of_nonneg (by rw [wrapU]; omega)
  rw [h, wrapI, wrapI, wrapU]
  omega
theorem small_d (d : Int) : -500000 ≤ IntKind.wrap .i64 (IntKind.wrap .i64 ((IntKind.wrap .u64 d).tmod 1000000) - 500000) ∧ IntKind.wrap .i64 (IntKind.wrap .i64 ((IntKind.wrap .u64 d).tmod 1000000) - 500000) ≤ 499999 := by
  have h : (IntKind.wrap .u64 d).tmod 1000000 = (IntKind.wrap .u64 d) % 1000000 := Int.tmod_eq_emod_of_nonneg (by rw [wrapU]; omega)
  rw [h, wrapI, wrapI, wrapU]
  omega
theorem draw_mod {d n : Int} (h1 : 1 ≤ n) (h2 : n ≤ 1000) : draw d n = d % n ∧ 0 ≤ draw d n ∧ draw d n < n := by
  have e1 := Int.emod_nonneg d (show n ≠ 0 by omega)
  have e2 := Int.emod_lt_of_pos d (show 0 < n by omega)
  have : draw d n = d % n := by
    unfold draw
    rw [if_neg (by omega)]
    have ht := Int.tmod_eq_emod (a := d) (b := n)
    split at ht
    · rw [if_neg (by omega)]; omega
    · have hn : (n.natAbs : Int) = n := by omega
      split
      · rw [wrapI_id (by omega) (by omega)]; omega
      · exfalso; omega
  omega
theorem draw_add {d n : Int} (d1 : -500000 ≤ d) (d2 : d ≤ 499999) (h1 : 1 ≤ n) (h2 : n ≤ 1000) : draw (IntKind.wrap .i64 (d + n)) n = d % n := by
  rw [wrapI_id (by omega) (by omega), (draw_mod h1 h2).1, Int.add_emod_right]
theorem draw_one {d n : Int} (d1 : -500000 ≤ d) (d2 : d ≤ 499999) (h1 : 1 ≤ n) (h2 : n ≤ 1000) : draw (IntKind.wrap .i64 (d + 1)) n = (IntKind.wrap .i64 (d % n + 1)).tmod n := by
  have e1 := Int.emod_nonneg d (show n ≠ 0 by omega)
  have e2 := Int.emod_lt_of_pos d (show 0 < n by omega)
  rw [wrapI_id (by omega) (by omega), wrapI_id (by omega) (by omega), (draw_mod h1 h2).1, Int.tmod_eq_emod_of_nonneg (by omega), Int.emod_add_emod]
theorem draw_neg {d n : Int} (h1 : 1 ≤ n) (h2 : n ≤ 1000) : draw d (IntKind.wrap .i64 (0 - n)) = 0 := by
  rw [wrapI_id (by omega) (by omega)]
  unfold draw
  rw [if_pos (by omega)]
def drawSpec (f : FuncId) (vs : List D) : Option (List Prop × D) := match f, vs with
  | 59, [.int .i64 d, .int .i64 n] => some ([], .int .i64 (draw d n))
  | 50, [] => some ([], .bool true)
  | _, _ => none
theorem drawOkS : SpecOk Try.prog M1 drawSpec := by
  intro g vs ts r h _
  unfold drawSpec at h
  split at h
  · injection h with h; injection h with h1 h2; subst h2; exact draw_fun _ _
  · injection h with h; injection h with h1 h2; subst h2; exact awake1
  · cases h
theorem calm20 : calmFn Try.f20 = true := by kernel_rfl
theorem draws_fun (d n : Int) : Fun Try.prog M1 20 [.int .i64 d, .int .i64 n] (.bool true) := by
  obtain ⟨v7, hv7⟩ : ∃ v : Int, IntKind.wrap IntKind.u64 n = v := ⟨_, rfl⟩
  obtain ⟨v8, hv8⟩ : ∃ v : Int, Int.tmod v7 1000 = v := ⟨_, rfl⟩
  obtain ⟨v9, hv9⟩ : ∃ v : Int, IntKind.wrap IntKind.i64 v8 = v := ⟨_, rfl⟩
  obtain ⟨v10, hv10⟩ : ∃ v : Int, IntKind.wrap IntKind.i64 (1 + v9) = v := ⟨_, rfl⟩
  have n1 : 1 ≤ v10 ∧ v10 ≤ 1000 := by rw [← hv10, ← hv9, ← hv8, ← hv7]; exact small_n n
  obtain ⟨v12, hv12⟩ : ∃ v : Int, IntKind.wrap IntKind.u64 d = v := ⟨_, rfl⟩
  obtain ⟨v13, hv13⟩ : ∃ v : Int, Int.tmod v12 1000000 = v := ⟨_, rfl⟩
  obtain ⟨v14, hv14⟩ : ∃ v : Int, IntKind.wrap IntKind.i64 v13 = v := ⟨_, rfl⟩
  obtain ⟨v15, hv15⟩ : ∃ v : Int, IntKind.wrap IntKind.i64 (v14 - 500000) = v := ⟨_, rfl⟩
  have d1 : -500000 ≤ v15 ∧ v15 ≤ 499999 := by rw [← hv15, ← hv14, ← hv13, ← hv12]; exact small_d d
  obtain ⟨v18, hv18⟩ : ∃ v : Int, draw v15 v10 = v := ⟨_, rfl⟩
  have x1 : v18 = v15 % v10 ∧ 0 ≤ v18 ∧ v18 < v10 := by rw [← hv18]; exact draw_mod n1.1 n1.2
  rcases Bool.eq_false_or_eq_true (decide (0 ≤ v18)) with h21 | h21
  · -- true
    rcases Bool.eq_false_or_eq_true (decide (v18 < v10)) with h26 | h26
    · -- true
      obtain ⟨v29, hv29⟩ : ∃ v : Int, IntKind.wrap IntKind.i64 (v15 + v10) = v := ⟨_, rfl⟩
      obtain ⟨v31, hv31⟩ : ∃ v : Int, draw v29 v10 = v := ⟨_, rfl⟩
      have x2 : v31 = v18 := by rw [← hv31, ← hv29, x1.1]; exact draw_add d1.1 d1.2 n1.1 n1.2
      rcases Bool.eq_false_or_eq_true (decide (v31 = v18)) with h35 | h35
      · -- true
        obtain ⟨v37, hv37⟩ : ∃ v : Int, IntKind.wrap IntKind.i64 (v15 + 1) = v := ⟨_, rfl⟩
        obtain ⟨v39, hv39⟩ : ∃ v : Int, draw v37 v10 = v := ⟨_, rfl⟩
        obtain ⟨v41, hv41⟩ : ∃ v : Int, IntKind.wrap IntKind.i64 (v18 + 1) = v := ⟨_, rfl⟩
        obtain ⟨v43, hv43⟩ : ∃ v : Int, Int.tmod v41 v10 = v := ⟨_, rfl⟩
        have x3 : v39 = v43 := by rw [← hv39, ← hv43, ← hv41, ← hv37, x1.1]; exact draw_one d1.1 d1.2 n1.1 n1.2
        rcases Bool.eq_false_or_eq_true (decide (v39 = v43)) with h46 | h46
        · -- true
          obtain ⟨v48, hv48⟩ : ∃ v : Int, draw v15 0 = v := ⟨_, rfl⟩
          have x4 : v48 = 0 := by rw [← hv48]; rfl
          rcases Bool.eq_false_or_eq_true (decide (v48 = 0)) with h51 | h51
          · -- true
            obtain ⟨v54, hv54⟩ : ∃ v : Int, IntKind.wrap IntKind.i64 (0 - v10) = v := ⟨_, rfl⟩
            obtain ⟨v55, hv55⟩ : ∃ v : Int, draw v15 v54 = v := ⟨_, rfl⟩
            have x5 : v55 = 0 := by rw [← hv55, ← hv54]; exact draw_neg n1.1 n1.2
            rcases Bool.eq_false_or_eq_true (decide (v55 = 0)) with h58 | h58
            · -- true
              exact path drawOkS (by kernel_rfl) rfl rfl Try.func20 (by kernel_rfl) calm20 [{ tag := 7, a := AnsK.si v7 }, { tag := 8, a := AnsK.ok }, { tag := 8, a := AnsK.si v8 }, { tag := 9, a := AnsK.si v9 }, { tag := 10, a := AnsK.si v10 }, { tag := 12, a := AnsK.si v12 }, { tag := 13, a := AnsK.ok }, { tag := 13, a := AnsK.si v13 }, { tag := 14, a := AnsK.si v14 }, { tag := 15, a := AnsK.si v15 }, { tag := 18, a := AnsK.si v18 }, { tag := 21, a := AnsK.b true }, { tag := 26, a := AnsK.b true }, { tag := 29, a := AnsK.si v29 }, { tag := 31, a := AnsK.si v31 }, { tag := 35, a := AnsK.b true }, { tag := 37, a := AnsK.si v37 }, { tag := 39, a := AnsK.si v39 }, { tag := 41, a := AnsK.si v41 }, { tag := 43, a := AnsK.ok }, { tag := 43, a := AnsK.si v43 }, { tag := 46, a := AnsK.b true }, { tag := 48, a := AnsK.si v48 }, { tag := 51, a := AnsK.b true }, { tag := 54, a := AnsK.si v54 }, { tag := 55, a := AnsK.si v55 }, { tag := 58, a := AnsK.b true }] (ts := [IntKind.wrap IntKind.u64 n = v7, (1000 : Int) ≠ 0, Int.tmod v7 1000 = v8, IntKind.wrap IntKind.i64 v8 = v9, IntKind.wrap IntKind.i64 (1 + v9) = v10, IntKind.wrap IntKind.u64 d = v12, (1000000 : Int) ≠ 0, Int.tmod v12 1000000 = v13, IntKind.wrap IntKind.i64 v13 = v14, IntKind.wrap IntKind.i64 (v14 - 500000) = v15, draw v15 v10 = v18, decide (0 ≤ v18) = true, decide (v18 < v10) = true, IntKind.wrap IntKind.i64 (v15 + v10) = v29, draw v29 v10 = v31, decide (v31 = v18) = true, IntKind.wrap IntKind.i64 (v15 + 1) = v37, draw v37 v10 = v39, IntKind.wrap IntKind.i64 (v18 + 1) = v41, v10 ≠ 0, Int.tmod v41 v10 = v43, decide (v39 = v43) = true, draw v15 0 = v48, decide (v48 = 0) = true, IntKind.wrap IntKind.i64 (0 - v10) = v54, draw v15 v54 = v55, decide (v55 = 0) = true]) (by kernel_rfl) ⟨(by first | assumption | decide | (simp only [decide_eq_true_eq, decide_eq_false_iff_not, ne_eq] at *; omega)), (by first | assumption | decide | (simp only [decide_eq_true_eq, decide_eq_false_iff_not, ne_eq] at *; omega)), (by first | assumption | decide | (simp only [decide_eq_true_eq, decide_eq_false_iff_not, ne_eq] at *; omega)), (by first | assumption | decide | (simp only [decide_eq_true_eq, decide_eq_false_iff_not, ne_eq] at *; omega)), (by first | assumption | decide | (simp only [decide_eq_true_eq, decide_eq_false_iff_not, ne_eq] at *; omega)), (by first | assumption | decide | (simp only [decide_eq_true_eq, decide_eq_false_iff_not, ne_eq] at *; omega)), (by first | assumption | decide | (simp only [decide_eq_true_eq, decide_eq_false_iff_not, ne_eq] at *; omega)), (by first | assumption | decide | (simp only [decide_eq_true_eq, decide_eq_false_iff_not, ne_eq] at *; omega)), (by first | assumption | decide | (simp only [decide_eq_true_eq, decide_eq_false_iff_not, ne_eq] at *; omega)), (by first | assumption | decide | (simp only [decide_eq_true_eq, decide_eq_false_iff_not, ne_eq] at *; omega)), (by first | assumption | decide | (simp only [decide_eq_true_eq, decide_eq_false_iff_not, ne_eq] at *; omega)), (by first | assumption | decide | (simp only [decide_eq_true_eq, decide_eq_false_iff_not, ne_eq] at *; omega)), (by first | assumption | decide | (simp only [decide_eq_true_eq, decide_eq_false_iff_not, ne_eq] at *; omega)), (by first | assumption | decide | (simp only [decide_eq_true_eq, decide_eq_false_iff_not, ne_eq] at *; omega)), (by first | assumption | decide | (simp only [decide_eq_true_eq, decide_eq_false_iff_not, ne_eq] at *; omega)), (by first | assumption | decide | (simp only [decide_eq_true_eq, decide_eq_false_iff_not, ne_eq] at *; omega)), (by first | assumption | decide | (simp only [decide_eq_true_eq, decide_eq_false_iff_not, ne_eq] at *; omega)), (by first | assumption | decide | (simp only [decide_eq_true_eq, decide_eq_false_iff_not, ne_eq] at *; omega)), (by first | assumption | decide | (simp only [decide_eq_true_eq, decide_eq_false_iff_not, ne_eq] at *; omega)), (by first | assumption | decide | (simp only [decide_eq_true_eq, decide_eq_false_iff_not, ne_eq] at *; omega)), (by first | assumption | decide | (simp only [decide_eq_true_eq, decide_eq_false_iff_not, ne_eq] at *; omega)), (by first | assumption | decide | (simp only [decide_eq_true_eq, decide_eq_false_iff_not, ne_eq] at *; omega)), (by first | assumption | decide | (simp only [decide_eq_true_eq, decide_eq_false_iff_not, ne_eq] at *; omega)), (by first | assumption | decide | (simp only [decide_eq_true_eq, decide_eq_false_iff_not, ne_eq] at *; omega)), (by first | assumption | decide | (simp only [decide_eq_true_eq, decide_eq_false_iff_not, ne_eq] at *; omega)), (by first | assumption | decide | (simp only [decide_eq_true_eq, decide_eq_false_iff_not, ne_eq] at *; omega)), (by first | assumption | decide | (simp only [decide_eq_true_eq, decide_eq_false_iff_not, ne_eq] at *; omega)), trivial⟩
            · -- false
              exfalso; (simp only [decide_eq_false_iff_not] at *; omega)
          · -- false
            exfalso; (simp only [decide_eq_false_iff_not] at *; omega)
        · -- false
          exfalso; (simp only [decide_eq_false_iff_not] at *; omega)
      · -- false
        exfalso; (simp only [decide_eq_false_iff_not] at *; omega)
    · -- false
      exfalso; (simp only [decide_eq_false_iff_not] at *; omega)
  · -- false
    exfalso; (simp only [decide_eq_false_iff_not] at *; omega)
  -- 7 paths

theorem ratioDraws_law {x0 : List D} (o0 : Ok [.int .i64] x0) {x1 : List D} (o1 : Ok [.int .i64] x1) : ∃ τ, run Try.prog M1 20 [vOf false x0, vOf false x1] [] = some (.bool true, τ) := by
  cases o0 with | int h0 t0 => cases t0; cases o1 with | int h1 t1 => cases t1; exact Fun_bool (draws_fun _ _)
end Go.Proofs.Ytfjgngdomjjpgaa.Dv
