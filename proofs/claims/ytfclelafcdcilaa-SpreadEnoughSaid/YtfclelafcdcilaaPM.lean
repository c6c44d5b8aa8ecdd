/- What laws over hosts with how their requests went are handed. -/
import Derived.Test.YtfclelafcdcilaaPE
set_option linter.unusedVariables false
set_option linter.unusedSimpArgs false
namespace Go.Proofs.Ytfclelafcdcilaa.Dv
open Go Go.Proofs
theorem cfgL_of' {x : List D} (o : OkL reachBytes [.int .i64, .int .i64, .int .i64, .int .i64, .int .i64, .int .i64, .int .i64, .int .i64, .int .i64, .int .i64, .int .i64, .int .i64, .int .i64, .int .i64, .int .i64, .bool, .int .i64, .int .i64, .int .i64, .int .i64, .int .i64, .str, .bool] x) : ∃ c : Cfg, x = c.toD.cells ∧ c.rI ∧ c.zone.size ≤ 9223372036854775807 := by
  cases o with | int h0 t0 =>
  cases t0 with | int h1 t1 =>
  cases t1 with | int h2 t2 =>
  cases t2 with | int h3 t3 =>
  cases t3 with | int h4 t4 =>
  cases t4 with | int h5 t5 =>
  cases t5 with | int h6 t6 =>
  cases t6 with | int h7 t7 =>
  cases t7 with | int h8 t8 =>
  cases t8 with | int h9 t9 =>
  cases t9 with | int h10 t10 =>
  cases t10 with | int h11 t11 =>
  cases t11 with | int h12 t12 =>
  cases t12 with | int h13 t13 =>
  cases t13 with | int h14 t14 =>
  cases t14 with | bool t15 =>
  cases t15 with | int h16 t16 =>
  cases t16 with | int h17 t17 =>
  cases t17 with | int h18 t18 =>
  cases t18 with | int h19 t19 =>
  cases t19 with | int h20 t20 =>
  cases t20 with | str h21 t21 =>
  cases t21 with | bool t22 =>
  cases t22
  exact ⟨⟨_, _, _, _, _, _, _, _, _, _, _, _, _, _, _, _, _, _, _, _, _, _, _⟩, rfl, ⟨wf_i64 h0, wf_i64 h1, wf_i64 h2, wf_i64 h3, wf_i64 h4, wf_i64 h5, wf_i64 h6, wf_i64 h7, wf_i64 h8, wf_i64 h9, wf_i64 h10, wf_i64 h11, wf_i64 h12, wf_i64 h13, wf_i64 h14, wf_i64 h16, wf_i64 h17, wf_i64 h18, wf_i64 h19, wf_i64 h20⟩, Nat.le_trans h21 (by decide)⟩
theorem okl_ratedE {ys : List D} (h1 : ∀ y ∈ ys, y.isAgg = true) (h2 : ∀ y ∈ ys, OkL reachBytes [.int .i64, .int .i64, .int .i64] y.cells) : ∃ l : List Rtd, ys = l.map rtD := by
  induction ys with
  | nil => exact ⟨[], rfl⟩
  | cons y ys ih =>
    obtain ⟨l, rfl⟩ := ih (fun z hz => h1 z (List.mem_cons_of_mem _ hz)) (fun z hz => h2 z (List.mem_cons_of_mem _ hz))
    have ha := h1 y (List.mem_cons_self ..)
    have hc := h2 y (List.mem_cons_self ..)
    cases y with
    | agg ds =>
      cases hc with | int _ t0 =>
      cases t0 with | int _ t1 =>
      cases t1 with | int _ t2 =>
      cases t2
      exact ⟨(_, _, _) :: l, rfl⟩
    | _ => cases ha
theorem okl1_rated {x : List D} (h : OkL reachBytes [.sl true [.int .i64, .int .i64, .int .i64]] x) : ∃ (f : Bool) (l : List Rtd), x = [.sl f (l.map rtD)] ∧ l.length ≤ 140737488355328 := by
  cases h with | sl hl h0 h1 h2 t =>
  cases t
  obtain ⟨l, rfl⟩ := okl_ratedE h1 h2
  refine ⟨_, l, rfl, ?_⟩
  rw [List.length_map, lim_val] at hl
  have : lksB [LK.int .i64, LK.int .i64, LK.int .i64] = 24 := rfl
  rw [this] at hl
  omega
theorem badV_len (c : Cfg) (l : List Rtd) : (badV c l).length ≤ l.length := by
  unfold badV
  split
  · rw [List.length_map, sortK_len]
    refine Nat.le_trans (badKs_le _ _ _) ?_
    unfold enB
    exact List.length_filter_le _ _
  · exact Nat.zero_le _
end Go.Proofs.Ytfclelafcdcilaa.Dv
