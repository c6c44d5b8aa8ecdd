/- Each product, sum, draw and share as the reference has it: the law. -/
import Derived.Test.YtfjgngdomjjpgaaA7
set_option linter.unusedVariables false
set_option linter.unusedSimpArgs false
namespace Go.Proofs.Ytfjgngdomjjpgaa.Dv
open Go Go.Proofs
def formsC1 : List Ctr := [mdC, mdC', cmpC, cmpC', pctC, pctC', sumC, sumC', drC, drC', sprC, sprC', intsC, awakeC 50 (by kernel_rfl)]
theorem formsN1 (f : Bool) (l : List Int) {a b c d : Int} (h : l.length ≤ 100) (hl : ∀ p ∈ l, rI p) (ha : rI a) (hb : rI b) (hc : rI c) (hd : rI d) : decide ((100 : Int) < (↑(List.map iD l).length : Int)) = false ∧ (rI a ∧ rI b ∧ rI c) ∧ (rI a ∧ rI b ∧ rI c) ∧ decide ((mdI a b c).fst = (mdI a b c).fst) = true ∧ decide ((mdI a b c).snd = (mdI a b c).snd) = true ∧ (rI a ∧ rI b ∧ rI c ∧ rI d) ∧ (rI a ∧ rI b ∧ rI c ∧ rI d) ∧ decide (cmpI (pr a b) (pr c d) = cmpI (pr a b) (pr c d)) = true ∧ (rI a ∧ rI b) ∧ (rI a ∧ rI b) ∧ decide ((mdI a b (100 : Int)).fst = (mdI a b (100 : Int)).fst) = true ∧ (List.map iD l = List.map iD (List.map dI (List.map iD l)) ∧ (List.map iD l).length ≤ (9223372036854775807 : Nat)) ∧ (List.map iD l = List.map iD (List.map dI (List.map iD l)) ∧ (List.map iD l).length ≤ (9223372036854775807 : Nat)) ∧ decide (sumV (List.map dI (List.map iD l)) = sumV (List.map dI (List.map iD l))) = true ∧ (rI a ∧ rI b) ∧ (rI a ∧ rI b) ∧ decide (drI a b = drI a b) = true ∧ (rI a ∧ List.map iD l = List.map iD (List.map dI (List.map iD l)) ∧ (∀ (p : Int), List.Mem p (List.map dI (List.map iD l)) → rI p) ∧ (List.map iD l).length ≤ (100 : Nat)) ∧ (rI a ∧ List.map iD l = List.map iD (List.map dI (List.map iD l)) ∧ (∀ (p : Int), List.Mem p (List.map dI (List.map iD l)) → rI p) ∧ (List.map iD l).length ≤ (100 : Nat)) ∧ ((List.map iD (spreadV a (List.map dI (List.map iD l))) = List.map iD (List.map dI (List.map iD (spreadV a (List.map dI (List.map iD l))))) ∧ List.map iD (spreadV a (List.map dI (List.map iD l))) = List.map iD (List.map dI (List.map iD (spreadV a (List.map dI (List.map iD l)))))) ∧ (List.map iD (spreadV a (List.map dI (List.map iD l)))).length ≤ (140737488355328 : Nat) ∧ (List.map iD (spreadV a (List.map dI (List.map iD l)))).length ≤ (140737488355328 : Nat)) ∧ decide (List.map dI (List.map iD (spreadV a (List.map dI (List.map iD l)))) = List.map dI (List.map iD (spreadV a (List.map dI (List.map iD l))))) = true ∧ True ∧ D.bool true = D.bool true := by
  have hm : ∀ t, (spreadV t l).length ≤ 140737488355328 := by
    intro t
    unfold spreadV
    split
    · simp
    · rw [give_len _ _ _ (bases_len ..).symm]; omega
  simp only [map_dI, List.length_map]
  unfold rI at *
  refine ⟨decide_eq_false (by omega), ?_⟩
  repeat' (first | (intro _) | (apply And.intro))
  all_goals first
    | assumption
    | omega
    | rfl
    | trivial
    | exact decide_eq_true rfl
    | exact hm _
    | exact (hl _ (by assumption)).1
    | exact (hl _ (by assumption)).2
theorem formsBig1 (f : Bool) (l : List Int) (a b c d : Int) (h : 100 < l.length) : decide ((100 : Int) < (↑(List.map iD l).length : Int)) = true ∧ True ∧ D.bool true = D.bool true := ⟨by simp; omega, trivial, rfl⟩
theorem ratioForms_law {x0 : List D} (o0 : OkL reachBytes [.int .i64] x0) {x1 : List D} (o1 : OkL reachBytes [.int .i64] x1) {x2 : List D} (o2 : OkL reachBytes [.int .i64] x2) {x3 : List D} (o3 : OkL reachBytes [.int .i64] x3) {x4 : List D} (o4 : OkL reachBytes [.sl false [.int .i64]] x4) : DataFun Try.prog 16 [vOf false x0, vOf false x1, vOf false x2, vOf false x3, vOf false x4] (.bool true) := by
  obtain ⟨a, rfl, ha⟩ := okl1_int o0
  obtain ⟨b, rfl, hb⟩ := okl1_int o1
  obtain ⟨c, rfl, hc⟩ := okl1_int o2
  obtain ⟨d, rfl, hd⟩ := okl1_int o3
  obtain ⟨f, l, rfl, hl, _⟩ := okl1_ints o4
  rcases Nat.lt_or_ge 100 l.length with h | h
  · exact dataFun0 (C := cfgH formsC1 [(17, .t)]) (ctrs_ok formsC1 rfl rfl) rfl Try.func16 (by kernel_rfl) (by kernel_rfl) (by kernel_rfl) (by kernel_rfl) (by kernel_rfl) (formsBig1 f l a b c d h)
  · exact dataFun0 (C := cfgH formsC1 [(17, .f), (36, .t), (41, .t), (54, .t), (63, .t), (70, .t), (79, .t), (88, .t)]) (ctrs_ok formsC1 rfl rfl) rfl Try.func16 (by kernel_rfl) (by kernel_rfl) (by kernel_rfl) (by kernel_rfl) (by kernel_rfl) (formsN1 f l h hl ha hb hc hd)
end Go.Proofs.Ytfjgngdomjjpgaa.Dv
