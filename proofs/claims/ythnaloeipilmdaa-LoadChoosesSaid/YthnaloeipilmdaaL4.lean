/- LoadChooses: the law. -/
import Derived.Test.YthnaloeipilmdaaL3
import Derived.Test.YthnaloeipilmdaaDvLim
set_option linter.unusedVariables false
set_option linter.unusedSimpArgs false
namespace Go.Proofs.Ythnaloeipilmdaa.Dv
open Go Go.Proofs
noncomputable def lcCfg (b : Hn) (f : Bool) (all : List Int) : WCfg := { lCfg lcC [(21, b), (56, .f), (108, .t), (114, .t)] with loops := fun k => match k with | 6 => some ((lcA f all).row [(0, true)]) | 14 => some ((lcB (shs all) (qs all)).row [(0, true), (1, true)]) | 25 => some ((lcD (shs all) (qs all)).row [(0, true), (1, true)]) | _ => none }
noncomputable def lcNil : WCfg := { lCfg lcC [] with unr := fun k => match k with | 6 => 1 | 14 => 1 | 25 => 1 | _ => 0 }
theorem ch_nil (d : Int) : chooseM [] d = (0, false) := rfl
theorem nil_shr : ∃ (l : List Shr), nilT D = List.map shD l ∧ l.length ≤ 60 := ⟨[], rfl, by simp⟩
theorem lcNilN (f : Bool) : (false = true → True ∧ D.bool true = D.bool true) ∧ (false = false → (false = true → ∃ (y : Int), (0 : Int) ≤ (0 : Int) ∧ none = some (D.int IntKind.i64 y) ∧ inK IntKind.u64 y ∧ (0 : Int) ≤ y ∧ (0 : Int) < (40 : Int) ∧ inK IntKind.i64 (y % (40 : Int)) ∧ inK IntKind.i64 ((0 : Int) + y % (40 : Int)) ∧ inK IntKind.i64 ((0 : Int) + (1 : Int)) ∧ False) ∧ (false = false → (false = true → ((∃ (l : List Shr), nilT D = List.map shD l ∧ l.length ≤ (60 : Nat)) ∧ rI (0 : Int)) ∧ (true = true → D.bool false = D.bool true) ∧ (true = false → (false = true → D.bool false = D.bool true) ∧ (false = false → (true = true → D.bool false = D.bool true) ∧ (true = false → (0 : Int) ≤ (0 : Int) ∧ (0 : Int) < (12 : Int) ∧ ∃ (x : Int), some (D.int IntKind.i64 (0 : Int)) = some (D.int IntKind.i64 x) ∧ inK IntKind.i64 (x + (1 : Int)) ∧ (0 : Int) ≤ (0 : Int) ∧ (0 : Int) < (12 : Int) ∧ (1 : Nat) ≤ (12 : Nat) ∧ inK IntKind.i64 ((0 : Int) - (0 : Int)) ∧ ((∃ (l : List Shr), nilT D = List.map shD l ∧ l.length ≤ (60 : Nat)) ∧ rI ((0 : Int) - (0 : Int))) ∧ (false = true → D.bool false = D.bool true) ∧ (false = false → inK IntKind.i64 ((0 : Int) + (1 : Int)) ∧ False))))) ∧ (false = false → (false = true → ∃ (y : Int × Int), (0 : Int) ≤ (0 : Int) ∧ none = some (D.agg [D.int IntKind.i64 y.fst, D.int IntKind.i64 y.snd]) ∧ (0 : Int) ≤ (0 : Int) ∧ (0 : Int) < (12 : Int) ∧ ∃ (x : Int), some (D.int IntKind.i64 (0 : Int)) = some (D.int IntKind.i64 x) ∧ (decide (x ≠ y.snd) = true → D.bool false = D.bool true) ∧ (decide (x ≠ y.snd) = false → inK IntKind.i64 ((0 : Int) + (1 : Int)) ∧ False)) ∧ (false = false → ((∃ (l : List Shr), nilT D = List.map shD l ∧ l.length ≤ (60 : Nat)) ∧ rI (3 : Int)) ∧ ((∃ (l : List Shr), nilT D = List.map shD l ∧ l.length ≤ (60 : Nat)) ∧ rI (0 : Int)) ∧ (true = true → (true = true → True ∧ D.bool true = D.bool true) ∧ (true = false → D.bool false = D.bool true)) ∧ (true = false → D.bool false = D.bool true))))) := by
  refine ⟨by simp, fun _ => ⟨by simp, fun _ => ⟨by simp, fun _ => ⟨by simp, fun _ => ?_⟩⟩⟩⟩
  have r0 : rI 0 := by unfold rI; omega
  have r3 : rI 3 := by unfold rI; omega
  exact ⟨⟨nil_shr, r3⟩, ⟨nil_shr, r0⟩, fun _ => ⟨by simp, by simp⟩, by simp⟩
theorem lcBig (f : Bool) (all : List Int) (h : 12 < all.length) : decide ((12 : Int) < (↑(List.map iD all).length : Int)) = true ∧ True ∧ D.bool true = D.bool true := by
  refine ⟨?_, trivial, rfl⟩
  rw [List.length_map]
  exact decide_eq_true (by omega)
theorem ch0 {q : List Int} (h : okP q) (hl : q.length ≤ 12) : (chooseM (mkS 0 q) 0).2 = decide (0 < q.sum) := by
  rw [choose_pk h hl]
  have hs := (tot_sum h).2
  by_cases h0 : q.sum = 0
  · rw [if_pos h0, h0]; rfl
  · obtain ⟨i, v, e1, _⟩ := gotL_step 0 h (y := 0) (Int.le_refl _) (by omega)
    have hd : drI 0 q.sum = 0 := by
      unfold drI
      rw [if_neg (by omega)]
      simp
    rw [if_neg h0, hd, e1]
    exact (decide_eq_true (by omega)).symm
theorem lcN (f : Bool) (all : List Int) (h : all.length ≤ 12) (h0 : all ≠ []) : decide ((12 : Int) < (↑(List.map iD all).length : Int)) = false ∧ ∃ (b : List Int × List Int), (b.fst ++ b.snd = all ∧ all.length ≤ (12 : Nat)) ∧ ((outD (0 : Nat) (List.map shD (shs b.fst)) = D.sl true [] ∧ D.int IntKind.i64 (qs b.fst).sum = D.int IntKind.i64 (0 : Int) ∧ D.sl f (List.map iD all) = D.sl f (List.map iD all) ∧ D.int IntKind.i64 (↑(List.map iD all).length : Int) = D.int IntKind.i64 (↑(List.map iD all).length : Int) ∧ D.int IntKind.i64 (↑b.fst.length : Int) = D.int IntKind.i64 (0 : Int)) ∧ (outO (2 : Nat) (List.map shD (shs b.fst)) = none ∨ outO (2 : Nat) (List.map shD (shs b.fst)) = none ∧ False)) ∧ (∀ (a : Unit), shs all = [] → ∃ (b : Int), (shs all = mkS (0 : Nat) (qs all) ∧ (∀ (p : Int), List.Mem p (qs all) → (0 : Int) ≤ p ∧ p ≤ (39 : Int)) ∧ (qs all).length ≤ (12 : Nat) ∧ (0 : Int) ≤ b ∧ b ≤ (qs all).sum) ∧ ((D.ms (0 : Nat) (0 : Nat) (shs all).length (shs all).length false = D.sl true [] ∧ D.int IntKind.i64 (qs all).sum = D.int IntKind.i64 (0 : Int) ∧ D.ptr (1 : Nat) (0 : Nat) (0 : Nat) = D.ptr (0 : Nat) (0 : Nat) (0 : Nat) ∧ D.int IntKind.i64 (qs all).sum = D.int IntKind.i64 (0 : Int) ∧ D.int IntKind.i64 b = D.int IntKind.i64 (0 : Int)) ∧ (some (Ob.row St.own (2 : Nat) (List.map shD (shs all))) = none ∨ some (Ob.row St.own (2 : Nat) (List.map shD (shs all))) = some (Ob.row St.own (12 : Nat) [D.agg [D.int IntKind.i64 (0 : Int), D.int IntKind.i64 (0 : Int), D.int IntKind.i64 (0 : Int), D.int IntKind.i64 (0 : Int), D.int IntKind.i64 (0 : Int), D.int IntKind.i64 (0 : Int), D.int IntKind.i64 (0 : Int), D.int IntKind.i64 (0 : Int), D.int IntKind.i64 (0 : Int), D.int IntKind.i64 (0 : Int), D.int IntKind.i64 (0 : Int), D.int IntKind.i64 (0 : Int)]]) ∧ true = true) ∧ (some (Ob.row St.own (12 : Nat) [D.agg (gotD (qs all) b)]) = none ∨ some (Ob.row St.own (12 : Nat) [D.agg (gotD (qs all) b)]) = none ∧ False)) ∧ ∀ (a : Unit), True → ∃ (b : List Shr × List Shr), (b.fst ++ b.snd = shs all ∧ shs all = mkS (0 : Nat) (qs all) ∧ (∀ (p : Int), List.Mem p (qs all) → (0 : Int) ≤ p ∧ p ≤ (39 : Int)) ∧ (qs all).length ≤ (12 : Nat)) ∧ ((D.ms (0 : Nat) (0 : Nat) (shs all).length (shs all).length false = D.ms (0 : Nat) (0 : Nat) (shs all).length (shs all).length false ∧ D.int IntKind.i64 (qs all).sum = D.int IntKind.i64 (qs all).sum ∧ D.ptr (1 : Nat) (0 : Nat) (0 : Nat) = D.ptr (1 : Nat) (0 : Nat) (0 : Nat) ∧ D.ms (0 : Nat) (0 : Nat) (shs all).length (shs all).length false = D.ms (0 : Nat) (0 : Nat) (shs all).length (shs all).length false ∧ D.int IntKind.i64 (↑(shs all).length : Int) = D.int IntKind.i64 (↑(shs all).length : Int) ∧ D.int IntKind.i64 (↑b.fst.length : Int) = D.int IntKind.i64 (0 : Int)) ∧ (some (Ob.row St.own (2 : Nat) (List.map shD (shs all))) = none ∨ some (Ob.row St.own (2 : Nat) (List.map shD (shs all))) = some (Ob.row St.own (2 : Nat) (List.map shD (shs all))) ∧ (List.map shD (shs all)).all D.pure = true) ∧ (some (Ob.row St.own (12 : Nat) [D.agg (gotD (qs all) (qs all).sum)]) = none ∨ some (Ob.row St.own (12 : Nat) [D.agg (gotD (qs all) (qs all).sum)]) = some (Ob.row St.own (12 : Nat) [D.agg (gotD (qs all) (qs all).sum)]) ∧ [D.agg (gotD (qs all) (qs all).sum)].all D.pure = true)) ∧ ∀ (a : Unit), True → ((∃ (l : List Shr), nilT D = List.map shD l ∧ l.length ≤ (60 : Nat)) ∧ rI (3 : Int)) ∧ (0 : Nat) + (shs all).length ≤ (List.map shD (shs all)).length ∧ (List.take (shs all).length (List.drop (0 : Nat) (List.map shD (shs all)))).all D.pure = true ∧ ((∃ (l : List Shr), List.take (shs all).length (List.drop (0 : Nat) (List.map shD (shs all))) = List.map shD l ∧ l.length ≤ (60 : Nat)) ∧ rI (0 : Int)) ∧ true = true ∧ decide ((chooseM (List.map dShr (List.take (shs all).length (List.drop (0 : Nat) (List.map shD (shs all))))) (0 : Int)).snd = decide ((0 : Int) < (qs all).sum)) = true ∧ True ∧ D.bool true = D.bool true) ∧ ∀ (a : Shr × List Shr), shs all = a.fst :: a.snd → ∃ (b : Int), (shs all = mkS (0 : Nat) (qs all) ∧ (∀ (p : Int), List.Mem p (qs all) → (0 : Int) ≤ p ∧ p ≤ (39 : Int)) ∧ (qs all).length ≤ (12 : Nat) ∧ (0 : Int) ≤ b ∧ b ≤ (qs all).sum) ∧ ((D.ms (0 : Nat) (0 : Nat) (shs all).length (shs all).length false = D.ms (0 : Nat) (0 : Nat) (List.map shD (a.fst :: a.snd)).length (List.map shD (a.fst :: a.snd)).length false ∧ D.int IntKind.i64 (qs all).sum = D.int IntKind.i64 (qs all).sum ∧ D.ptr (1 : Nat) (0 : Nat) (0 : Nat) = D.ptr (1 : Nat) (0 : Nat) (0 : Nat) ∧ D.int IntKind.i64 (qs all).sum = D.int IntKind.i64 (qs all).sum ∧ D.int IntKind.i64 b = D.int IntKind.i64 (0 : Int)) ∧ (some (Ob.row St.own (2 : Nat) (List.map shD (shs all))) = none ∨ some (Ob.row St.own (2 : Nat) (List.map shD (shs all))) = some (Ob.row St.own (2 : Nat) (List.map shD (a.fst :: a.snd))) ∧ (List.map shD (a.fst :: a.snd)).all D.pure = true) ∧ (some (Ob.row St.own (12 : Nat) [D.agg (gotD (qs all) b)]) = none ∨ some (Ob.row St.own (12 : Nat) [D.agg (gotD (qs all) b)]) = some (Ob.row St.own (12 : Nat) [D.agg [D.int IntKind.i64 (0 : Int), D.int IntKind.i64 (0 : Int), D.int IntKind.i64 (0 : Int), D.int IntKind.i64 (0 : Int), D.int IntKind.i64 (0 : Int), D.int IntKind.i64 (0 : Int), D.int IntKind.i64 (0 : Int), D.int IntKind.i64 (0 : Int), D.int IntKind.i64 (0 : Int), D.int IntKind.i64 (0 : Int), D.int IntKind.i64 (0 : Int), D.int IntKind.i64 (0 : Int)]]) ∧ true = true)) ∧ ∀ (a : Unit), True → ∃ (b : List Shr × List Shr), (b.fst ++ b.snd = shs all ∧ shs all = mkS (0 : Nat) (qs all) ∧ (∀ (p : Int), List.Mem p (qs all) → (0 : Int) ≤ p ∧ p ≤ (39 : Int)) ∧ (qs all).length ≤ (12 : Nat)) ∧ ((D.ms (0 : Nat) (0 : Nat) (shs all).length (shs all).length false = D.ms (0 : Nat) (0 : Nat) (shs all).length (shs all).length false ∧ D.int IntKind.i64 (qs all).sum = D.int IntKind.i64 (qs all).sum ∧ D.ptr (1 : Nat) (0 : Nat) (0 : Nat) = D.ptr (1 : Nat) (0 : Nat) (0 : Nat) ∧ D.ms (0 : Nat) (0 : Nat) (shs all).length (shs all).length false = D.ms (0 : Nat) (0 : Nat) (shs all).length (shs all).length false ∧ D.int IntKind.i64 (↑(shs all).length : Int) = D.int IntKind.i64 (↑(shs all).length : Int) ∧ D.int IntKind.i64 (↑b.fst.length : Int) = D.int IntKind.i64 (0 : Int)) ∧ (some (Ob.row St.own (2 : Nat) (List.map shD (shs all))) = none ∨ some (Ob.row St.own (2 : Nat) (List.map shD (shs all))) = some (Ob.row St.own (2 : Nat) (List.map shD (shs all))) ∧ (List.map shD (shs all)).all D.pure = true) ∧ (some (Ob.row St.own (12 : Nat) [D.agg (gotD (qs all) (qs all).sum)]) = none ∨ some (Ob.row St.own (12 : Nat) [D.agg (gotD (qs all) (qs all).sum)]) = some (Ob.row St.own (12 : Nat) [D.agg (gotD (qs all) (qs all).sum)]) ∧ [D.agg (gotD (qs all) (qs all).sum)].all D.pure = true)) ∧ ∀ (a : Unit), True → ((∃ (l : List Shr), nilT D = List.map shD l ∧ l.length ≤ (60 : Nat)) ∧ rI (3 : Int)) ∧ (0 : Nat) + (shs all).length ≤ (List.map shD (shs all)).length ∧ (List.take (shs all).length (List.drop (0 : Nat) (List.map shD (shs all)))).all D.pure = true ∧ ((∃ (l : List Shr), List.take (shs all).length (List.drop (0 : Nat) (List.map shD (shs all))) = List.map shD l ∧ l.length ≤ (60 : Nat)) ∧ rI (0 : Int)) ∧ true = true ∧ decide ((chooseM (List.map dShr (List.take (shs all).length (List.drop (0 : Nat) (List.map shD (shs all))))) (0 : Int)).snd = decide ((0 : Int) < (qs all).sum)) = true ∧ True ∧ D.bool true = D.bool true := by
  have hq := qs_ok all
  have hql := qs_len all
  have hs := (tot_sum hq).2
  have hsl := shs_len all
  have hml : (List.map shD (shs all)).length = (shs all).length := List.length_map ..
  have r0 : rI 0 := by unfold rI; omega
  have r3 : rI 3 := by unfold rI; omega
  refine ⟨by rw [List.length_map]; exact decide_eq_false (by omega), ([], all), ⟨rfl, h⟩, ⟨⟨rfl, rfl, rfl, rfl, rfl⟩, .inl rfl⟩, fun _ hn => ?_, fun a ha => ?_⟩
  · exfalso
    rw [hn] at hsl
    exact h0 (List.length_eq_zero_iff.1 hsl.symm)
  · have e : shs all = a.1 :: a.2 := ha
    have ht : List.take (shs all).length (List.drop 0 (List.map shD (shs all))) = List.map shD (shs all) := by rw [List.drop_zero, List.take_of_length_le (by rw [List.length_map]; omega)]
    have hg : gotD (qs all) 0 = [.int .i64 0, .int .i64 0, .int .i64 0, .int .i64 0, .int .i64 0, .int .i64 0, .int .i64 0, .int .i64 0, .int .i64 0, .int .i64 0, .int .i64 0, .int .i64 0] := by
      unfold gotD
      rw [gotL_neg hq (Int.le_refl _), List.map_map]
      have : ((qs all).map (iD ∘ fun _ => (0 : Int))) = List.replicate (qs all).length (iD 0) := List.map_const' ..
      rw [this, List.replicate_append_replicate, show (qs all).length + (12 - (qs all).length) = 12 by omega]
      rfl
    have hpg : ∀ d, [D.agg (gotD (qs all) d)].all D.pure = true := by
      intro d
      rw [List.all_cons, List.all_nil, Bool.and_true]
      show (gotD (qs all) d).all D.pleaf = true
      unfold gotD
      rw [List.all_append, Bool.and_eq_true, List.all_eq_true, List.all_eq_true]
      refine ⟨fun x hx => ?_, fun x hx => ?_⟩
      · obtain ⟨n, _, rfl⟩ := List.mem_map.1 hx; rfl
      · rw [List.eq_of_mem_replicate hx]; rfl
    rw [ht, map_dShr, hml]
    refine ⟨0, ⟨rfl, hq, by omega, Int.le_refl _, hs.1⟩, ⟨⟨by rw [e, List.length_map], rfl, rfl, rfl, rfl⟩, .inr ⟨by rw [e], by rw [← e]; exact pure_shD _⟩, .inr ⟨by rw [hg], rfl⟩⟩, fun _ _ => ?_⟩
    refine ⟨([], shs all), ⟨rfl, rfl, hq, by omega⟩, ⟨⟨rfl, rfl, rfl, rfl, rfl, rfl⟩, .inr ⟨rfl, pure_shD _⟩, .inr ⟨rfl, hpg _⟩⟩, fun _ _ => ?_⟩
    refine ⟨⟨nil_shr, r3⟩, by omega, pure_shD _, ⟨⟨_, rfl, by omega⟩, r0⟩, rfl, ?_, trivial, rfl⟩
    have e0 : (chooseM (shs all) 0).2 = decide (0 < (qs all).sum) := ch0 hq (by omega)
    rw [e0]
    simp
theorem loadChooses_law {x0 : List D} (o0 : OkL reachBytes [.sl false [.int .i64]] x0) : DataFun Try.prog 19 [vOf false x0] (.bool true) := by
  obtain ⟨f, l, rfl, _, hl⟩ := okl1_ints o0
  have big : ∀ b, ∀ x ∈ [lp Try.f19 6, lp Try.f19 14, lp Try.f19 25], LoopFits Try.prog (lcCfg b f l) 117 x := by
    intro b x hx
    simp only [List.mem_cons, List.not_mem_nil, or_false] at hx
    rcases hx with rfl | rfl | rfl
    · exact (lcA f l).fits 6 [(0, true)] (by kernel_rfl) rfl (lcAR f l)
    · exact (lcB (shs l) (qs l)).fits 14 [(0, true), (1, true)] (by kernel_rfl) rfl (lcBR (shs l) (qs l))
    · exact (lcD (shs l) (qs l)).fits 25 [(0, true), (1, true)] (by kernel_rfl) rfl (lcDR (shs l) (qs l))
  cases l with
  | nil => exact dataFun0 (C := lcNil) (ctrs_ok lcC rfl rfl) rfl Try.func19 (by kernel_rfl) (by kernel_rfl) (by kernel_rfl) (by kernel_rfl) (by kernel_rfl) (lcNilN f)
  | cons y ys =>
    by_cases h : (y :: ys).length ≤ 12
    · exact dataFunL (C := lcCfg .f f (y :: ys)) (ctrs_ok lcC rfl rfl) rfl Try.func19 (by kernel_rfl) (l := [lp Try.f19 6, lp Try.f19 14, lp Try.f19 25]) (by kernel_rfl) (big .f) (by kernel_rfl) (by kernel_rfl) (by kernel_rfl) (lcN f (y :: ys) h (by simp))
    · exact dataFunL (C := lcCfg .t f (y :: ys)) (ctrs_ok lcC rfl rfl) rfl Try.func19 (by kernel_rfl) (l := [lp Try.f19 6, lp Try.f19 14, lp Try.f19 25]) (by kernel_rfl) (big .t) (by kernel_rfl) (by kernel_rfl) (by kernel_rfl) (lcBig f (y :: ys) (by omega))
end Go.Proofs.Ythnaloeipilmdaa.Dv
