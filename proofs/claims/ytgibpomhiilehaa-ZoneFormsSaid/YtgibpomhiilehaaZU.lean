/- ZoneForms: names, shares and members of a zone are the pages'. -/
import Derived.Test.YtgibpomhiilehaaZT
import Derived.Test.YtgibpomhiilehaaN3
set_option linter.unusedVariables false
set_option linter.unusedSimpArgs false
namespace Go.Proofs.Ytgibpomhiilehaa.Dv
open Go Go.Proofs
noncomputable def zfC : List Ctr := [l16C, aw19, nmC, zonesC, txC, zshC, zrC, ssC, inC, gaizC, smC]
theorem zfN (f : Bool) (own : ByteArray) (l : List Stat) (h1 : l.length ≤ 1000000000000) (h2 : ∀ t ∈ l, t.small) : (∃ (l_1 : List Stat), List.map statD l = List.map statD l_1 ∧ l_1.length ≤ (1000000000000 : Nat) ∧ ∀ (t : Stat), List.Mem t l_1 → t.small) ∧ (decide ((0 : Int) < lit16 (List.map dStat (List.map statD l)) (0 : Nat)) = true → True ∧ D.bool true = D.bool true) ∧ (decide ((0 : Int) < lit16 (List.map dStat (List.map statD l)) (0 : Nat)) = false → (decide ((100 : Int) < (↑own.size : Int)) = true → True ∧ D.bool true = D.bool true) ∧ (decide ((100 : Int) < (↑own.size : Int)) = false → (∃ (l_1 : List Stat), List.map statD l = List.map statD l_1 ∧ l_1.length ≤ (1000 : Nat)) ∧ (∃ (l_1 : List Stat), List.map statD l = List.map statD l_1 ∧ l_1.length ≤ (1000 : Nat)) ∧ (∃ (l_1 : List ByteArray), List.map strD (zNames (List.map dStat (List.map statD l))) = List.map strD l_1 ∧ List.map strD (zNames (List.map dStat (List.map statD l))) = List.map strD l_1 ∧ l_1.length ≤ (1000 : Nat) ∧ True) ∧ (true = true → (∃ (l_1 : List Stat), List.map statD l = List.map statD l_1 ∧ l_1.length ≤ (1000 : Nat) ∧ (zNames l_1).length ≤ (100 : Nat)) ∧ (∃ (l_1 : List Stat), List.map statD l = List.map statD l_1 ∧ l_1.length ≤ (1000 : Nat) ∧ (zNames l_1).length ≤ (100 : Nat) ∧ ∀ (t : Stat), List.Mem t l_1 → t.small) ∧ (∃ (l_1 : List Shr), List.map shD (zsh own (List.map dStat (List.map statD l))) = List.map shD l_1 ∧ List.map shD (zsh own (List.map dStat (List.map statD l))) = List.map shD l_1 ∧ l_1.length ≤ (1000 : Nat) ∧ True) ∧ (true = true → (∃ (l_1 : List Stat), List.map statD l = List.map statD l_1 ∧ l_1.length ≤ (1000 : Nat) ∧ ∀ (u : Stat), List.Mem u l_1 → u.small) ∧ (∃ (l_1 : List Stat), List.map statD l = List.map statD l_1 ∧ l_1.length ≤ (1000 : Nat) ∧ ∀ (t : Stat), List.Mem t l_1 → t.small) ∧ (∃ (l_1 : List Stat), List.map statD (keptZ own (List.map Stat.cp (List.map dStat (List.map statD l)))) = List.map statD l_1 ∧ List.map statD (gaiz own (List.map dStat (List.map statD l))) = List.map statD l_1 ∧ l_1.length ≤ (1000 : Nat) ∧ ∀ (t : Stat), List.Mem t l_1 → t.small) ∧ (true = true → True ∧ D.bool true = D.bool true) ∧ (true = false → D.bool false = D.bool true)) ∧ (true = false → D.bool false = D.bool true)) ∧ (true = false → D.bool false = D.bool true))) := by
  rw [map_dStat]
  refine ⟨⟨l, rfl, h1, h2⟩, fun _ => ⟨trivial, rfl⟩, fun h => ⟨fun _ => ⟨trivial, rfl⟩, fun _ => ?_⟩⟩
  have hl := lit16_len (l := l) (i := 0) (by omega) (of_decide_eq_false h)
  have hl0 : l.length ≤ 1000 := by omega
  have hn : (zNames l).length ≤ 100 := by have := (zNames_all l).2.1; omega
  have hz : (zsh own l).length ≤ 1000 := by
    unfold zsh
    split
    · simp
    · unfold zshV fin0
      split <;> (rw [tab_len]; omega)
  rw [keptZ_cp, gaiz_kept]
  have hk : ((keptZ own l).map Stat.cp).length ≤ 1000 := by rw [List.length_map]; exact Nat.le_trans (List.length_filter_le ..) hl0
  have hs : ∀ t ∈ (keptZ own l).map Stat.cp, t.small := by rw [← gaiz_kept]; exact gaiz_small own h2
  exact ⟨⟨l, rfl, hl0⟩, ⟨l, rfl, hl0⟩, ⟨zNames l, rfl, rfl, by omega, trivial⟩, fun _ => ⟨⟨l, rfl, hl0, hn⟩, ⟨l, rfl, hl0, hn, h2⟩, ⟨zsh own l, rfl, rfl, hz, trivial⟩, fun _ => ⟨⟨l, rfl, hl0, h2⟩, ⟨l, rfl, hl0, h2⟩, ⟨_, rfl, rfl, hk, hs⟩, fun _ => ⟨trivial, rfl⟩, fun h => by cases h⟩, fun h => by cases h⟩, fun h => by cases h⟩
theorem zoneForms_law {x0 : List D} (o0 : OkL reachBytes [.sl true [.int .i64, .str, .int .i64, .str, .int .i64, .sl true [.str, .str], .bool, .int .i64, .int .i64, .int .i64, .int .i64, .int .i64, .int .i64, .bool, .int .i64, .int .i64, .int .i64, .bool, .int .i64, .int .i64, .int .i64]] x0) {x1 : List D} (o1 : OkL reachBytes [.str] x1) : DataFun Try.prog 5 [vOf false x0, vOf false x1] (.bool true) := by
  obtain ⟨f, l, rfl, h1, h2⟩ := okl1_stats o0
  cases o1 with | str g t =>
  cases t
  rename_i own
  exact dataFun0 (C := nCfg 0 zfC [] []) (ctrs_ok zfC rfl rfl) rfl Try.func5 (by kernel_rfl) (by kernel_rfl) (by kernel_rfl) (by kernel_rfl) (by kernel_rfl) (zfN f own l h2 fun t ht => (h1 t ht).1)
end Go.Proofs.Ytgibpomhiilehaa.Dv
