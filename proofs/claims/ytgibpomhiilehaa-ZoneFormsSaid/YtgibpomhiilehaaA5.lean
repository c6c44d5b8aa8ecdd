/- Sums. -/
import Derived.Test.YtgibpomhiilehaaA4
set_option linter.unusedVariables false
set_option linter.unusedSimpArgs false
namespace Go.Proofs.Ytgibpomhiilehaa.Dv
open Go Go.Proofs
/-- What there is: those below nought don't count. -/
def tot : List Int → Int
  | [] => 0
  | x :: l => max x 0 + tot l
theorem tot_nonneg : ∀ l, 0 ≤ tot l
  | [] => Int.le_refl 0
  | x :: l => by have := tot_nonneg l; show 0 ≤ max x 0 + tot l; omega
theorem tot_append : ∀ l m, tot (l ++ m) = tot l + tot m
  | [], m => by show tot m = 0 + tot m; omega
  | x :: l, m => by have := tot_append l m; show max x 0 + tot (l ++ m) = max x 0 + tot l + tot m; omega
def sumV (l : List Int) : Int := min (tot l) 4611686018427387904
def sumL (f : Bool) : WLoop := { St := Int × List Int × List Int, O := Int, T := fun s => [(3, .int .i64 s.1), (6, .sl f ((s.2.1 ++ s.2.2).map iD)), (7, .int .i64 (s.2.1 ++ s.2.2).length), (8, .int .i64 s.2.1.length)]
                                 ok := fun s => 0 ≤ s.1 ∧ s.1 ≤ 4611686018427387904 ∧ s.2.1.length + s.2.2.length ≤ 9223372036854775807
                                 μ := fun s => s.2.2.length, m := fun s => min (s.1 + tot s.2.2) 4611686018427387904, outs := [{ α := Int, is := Eq, ex := .exit 0, T := fun o => [(3, .int .i64 o)] }] }
def sumCfg (f : Bool) : WCfg := { cfgOf [] with loops := fun k => match k with | 3 => some ((sumL f).row []) | _ => none }
theorem sum_round (f : Bool) (s : (sumL f).St) (hs : (sumL f).ok s) : Tri Try.prog 0 21 (lp Try.f50 3) (tb ((sumL f).T s)) ((sumL f).S s) ((sumL f).q 0 s) := by
  obtain ⟨acc, done, rest⟩ := s
  obtain ⟨h1, h2, h3⟩ := hs
  simp only at h1 h2 h3
  cases rest with
  | nil =>
    refine round0 (C := cfgH [] [(9, .f)]) (ctrs_ok [] rfl rfl) (by kernel_rfl) (by kernel_rfl) (q := decide ((↑done.length : Int) < (↑(done ++ []).length : Int)) = false ∧ ∃ (a : Int), min (acc + tot []) (4611686018427387904 : Int) = a ∧ D.int IntKind.i64 a = D.int IntKind.i64 acc) (by kernel_rfl) ?_
    simp [tot]
    omega
  | cons x rest =>
    refine round0 (C := cfgH [] [(9, .t)]) (ctrs_ok [] rfl rfl) (by kernel_rfl) (by kernel_rfl) (q := decide ((↑done.length : Int) < (↑(done ++ x :: rest).length : Int)) = true ∧ ∃ (y : Int), (0 : Int) ≤ (↑done.length : Int) ∧ (List.map iD (done ++ x :: rest))[(↑done.length : Int).toNat]? = some (D.int IntKind.i64 y) ∧ inK IntKind.i64 ((4611686018427387904 : Int) - acc) ∧ inK IntKind.i64 (acc + min (max y (0 : Int)) ((4611686018427387904 : Int) - acc)) ∧ inK IntKind.i64 ((↑done.length : Int) + (1 : Int)) ∧ ∃ (s' : Int × List Int × List Int), ((0 : Int) ≤ s'.fst ∧ s'.fst ≤ (4611686018427387904 : Int) ∧ s'.snd.fst.length + s'.snd.snd.length ≤ (9223372036854775807 : Nat)) ∧ s'.snd.snd.length.succ ≤ (x :: rest).length ∧ min (s'.fst + tot s'.snd.snd) (4611686018427387904 : Int) = min (acc + tot (x :: rest)) (4611686018427387904 : Int) ∧ D.int IntKind.i64 s'.fst = D.int IntKind.i64 (acc + min (max y (0 : Int)) ((4611686018427387904 : Int) - acc)) ∧ D.sl f (List.map iD (s'.snd.fst ++ s'.snd.snd)) = D.sl f (List.map iD (done ++ x :: rest)) ∧ D.int IntKind.i64 (↑(s'.snd.fst ++ s'.snd.snd).length : Int) = D.int IntKind.i64 (↑(done ++ x :: rest).length : Int) ∧ D.int IntKind.i64 (↑s'.snd.fst.length : Int) = D.int IntKind.i64 ((↑done.length : Int) + (1 : Int))) (by kernel_rfl) ?_
    have ht := tot_nonneg rest
    have htx : tot (x :: rest) = max x 0 + tot rest := rfl
    simp only [List.length_append, List.length_cons, inK] at h3 ⊢
    refine ⟨by simp; omega, x, by omega, get_midI iD _ _ _, by omega, by omega, by omega, (acc + min (max x 0) (4611686018427387904 - acc), done ++ [x], rest), by simp only [List.length_append, List.length_cons, List.length_nil]; omega, by simp, by simp only; omega, by simp; try omega⟩
def sumS (vs : List D) : Option DOut := match vs with | [.sl f ys] => some ⟨ys = (ys.map dI).map iD ∧ ys.length ≤ 9223372036854775807, .int .i64 (sumV (ys.map dI))⟩ | _ => none
theorem sumN (xs : List Int) (f : Bool) (h : xs.length ≤ 9223372036854775807) : ∃ (b : Int × List Int × List Int), ((0 : Int) ≤ b.fst ∧ b.fst ≤ (4611686018427387904 : Int) ∧ b.snd.fst.length + b.snd.snd.length ≤ (9223372036854775807 : Nat)) ∧ (D.int IntKind.i64 b.fst = D.int IntKind.i64 (0 : Int) ∧ D.sl f (List.map iD (b.snd.fst ++ b.snd.snd)) = D.sl f (List.map iD xs) ∧ D.int IntKind.i64 (↑(b.snd.fst ++ b.snd.snd).length : Int) = D.int IntKind.i64 (↑(List.map iD xs).length : Int) ∧ D.int IntKind.i64 (↑b.snd.fst.length : Int) = D.int IntKind.i64 (0 : Int)) ∧ ∀ (a : Int), min (b.fst + tot b.snd.snd) (4611686018427387904 : Int) = a → D.int IntKind.i64 a = D.int IntKind.i64 (sumV xs) := by
  refine ⟨(0, [], xs), by simpa using h, by simp, ?_⟩
  rintro a rfl
  simp [sumV]
def sumC : Ctr := ⟨50, sumS, by
  intro vs o ho hp
  unfold sumS at ho
  split at ho
  · rename_i f ys
    injection ho with ho; subst ho
    obtain ⟨h1, h2⟩ := hp
    obtain ⟨xs, hx⟩ : ∃ xs : List Int, ys = xs.map iD := ⟨_, h1⟩
    subst hx
    simp only [map_dI, List.length_map] at h2 ⊢
    refine dataFunL (C := sumCfg f) (ctrs_ok [] rfl rfl) rfl Try.func50 (by kernel_rfl) (l := [lp Try.f50 3]) (by kernel_rfl) ?_ (by kernel_rfl) (by kernel_rfl) (by kernel_rfl) (sumN xs f h2)
    intro x hx
    rw [List.mem_singleton.1 hx]
    exact (sumL f).fits 3 [] (by kernel_rfl) rfl (sum_round f)
  · cases ho⟩
def sumL' (f : Bool) : WLoop := { St := Int × List Int × List Int, O := Int, T := fun s => [(3, .int .i64 s.1), (6, .sl f ((s.2.1 ++ s.2.2).map iD)), (7, .int .i64 (s.2.1 ++ s.2.2).length), (8, .int .i64 s.2.1.length)]
                                  ok := fun s => 0 ≤ s.1 ∧ s.1 ≤ 4611686018427387904 ∧ s.2.1.length + s.2.2.length ≤ 9223372036854775807
                                  μ := fun s => s.2.2.length, m := fun s => min (s.1 + tot s.2.2) 4611686018427387904, outs := [{ α := Int, is := Eq, ex := .exit 0, T := fun o => [(3, .int .i64 o)] }, { α := Int, is := Eq, ex := .ret, T := fun o => [(2, .int .i64 o)] }] }
def sumCfg' (f : Bool) : WCfg := { cfgOf [] with loops := fun k => match k with | 3 => some ((sumL' f).row []) | _ => none }
theorem sum_round' (f : Bool) (s : (sumL' f).St) (hs : (sumL' f).ok s) : Tri Try.prog 0 23 (lp Try.f52 3) (tb ((sumL' f).T s)) ((sumL' f).S s) ((sumL' f).q 0 s) := by
  obtain ⟨acc, done, rest⟩ := s
  obtain ⟨h1, h2, h3⟩ := hs
  simp only at h1 h2 h3
  cases rest with
  | nil =>
    refine round0 (C := cfgH [] [(9, .f)]) (ctrs_ok [] rfl rfl) (by kernel_rfl) (by kernel_rfl) (q := decide ((↑done.length : Int) < (↑(done ++ []).length : Int)) = false ∧ ∃ (a : Int), min (acc + tot []) (4611686018427387904 : Int) = a ∧ D.int IntKind.i64 a = D.int IntKind.i64 acc) (by kernel_rfl) ?_
    simp [tot]
    omega
  | cons x rest =>
    refine round0 (C := cfgH [] [(9, .t)]) (ctrs_ok [] rfl rfl) (by kernel_rfl) (by kernel_rfl) (q := decide ((↑done.length : Int) < (↑(done ++ x :: rest).length : Int)) = true ∧ ∃ (y : Int), (0 : Int) ≤ (↑done.length : Int) ∧ (List.map iD (done ++ x :: rest))[(↑done.length : Int).toNat]? = some (D.int IntKind.i64 y) ∧ inK IntKind.i64 ((4611686018427387904 : Int) - acc) ∧ (decide ((4611686018427387904 : Int) - acc < max (0 : Int) y) = true → ∃ (a : Int), min (acc + tot (x :: rest)) (4611686018427387904 : Int) = a ∧ D.int IntKind.i64 a = D.int IntKind.i64 (4611686018427387904 : Int)) ∧ (decide ((4611686018427387904 : Int) - acc < max (0 : Int) y) = false → inK IntKind.i64 (acc + max (0 : Int) y) ∧ inK IntKind.i64 ((↑done.length : Int) + (1 : Int)) ∧ ∃ (s' : Int × List Int × List Int), ((0 : Int) ≤ s'.fst ∧ s'.fst ≤ (4611686018427387904 : Int) ∧ s'.snd.fst.length + s'.snd.snd.length ≤ (9223372036854775807 : Nat)) ∧ s'.snd.snd.length.succ ≤ (x :: rest).length ∧ min (s'.fst + tot s'.snd.snd) (4611686018427387904 : Int) = min (acc + tot (x :: rest)) (4611686018427387904 : Int) ∧ D.int IntKind.i64 s'.fst = D.int IntKind.i64 (acc + max (0 : Int) y) ∧ D.sl f (List.map iD (s'.snd.fst ++ s'.snd.snd)) = D.sl f (List.map iD (done ++ x :: rest)) ∧ D.int IntKind.i64 (↑(s'.snd.fst ++ s'.snd.snd).length : Int) = D.int IntKind.i64 (↑(done ++ x :: rest).length : Int) ∧ D.int IntKind.i64 (↑s'.snd.fst.length : Int) = D.int IntKind.i64 ((↑done.length : Int) + (1 : Int)))) (by kernel_rfl) ?_
    have ht := tot_nonneg rest
    have htx : tot (x :: rest) = max x 0 + tot rest := rfl
    simp only [List.length_append, List.length_cons, inK] at h3 ⊢
    refine ⟨by simp; omega, x, by omega, get_midI iD _ _ _, by omega, chks (fun h => ⟨4611686018427387904, by omega, rfl⟩) fun h => ⟨by omega, by omega, (acc + max 0 x, done ++ [x], rest), by simp only [List.length_append, List.length_cons, List.length_nil]; omega, by simp, by simp only; omega, by simp; try omega⟩⟩
theorem sumN' (xs : List Int) (f : Bool) (h : xs.length ≤ 9223372036854775807) : ∃ (b : Int × List Int × List Int), ((0 : Int) ≤ b.fst ∧ b.fst ≤ (4611686018427387904 : Int) ∧ b.snd.fst.length + b.snd.snd.length ≤ (9223372036854775807 : Nat)) ∧ (D.int IntKind.i64 b.fst = D.int IntKind.i64 (0 : Int) ∧ D.sl f (List.map iD (b.snd.fst ++ b.snd.snd)) = D.sl f (List.map iD xs) ∧ D.int IntKind.i64 (↑(b.snd.fst ++ b.snd.snd).length : Int) = D.int IntKind.i64 (↑(List.map iD xs).length : Int) ∧ D.int IntKind.i64 (↑b.snd.fst.length : Int) = D.int IntKind.i64 (0 : Int)) ∧ (∀ (a : Int), min (b.fst + tot b.snd.snd) (4611686018427387904 : Int) = a → D.int IntKind.i64 a = D.int IntKind.i64 (sumV xs)) ∧ ∀ (a : Int), min (b.fst + tot b.snd.snd) (4611686018427387904 : Int) = a → D.int IntKind.i64 a = D.int IntKind.i64 (sumV xs) := by
  refine ⟨(0, [], xs), by simpa using h, by simp, ?_, ?_⟩
  · rintro a rfl
    simp [sumV]
  · rintro a rfl
    simp [sumV]
def sumC' : Ctr := ⟨52, sumS, by
  intro vs o ho hp
  unfold sumS at ho
  split at ho
  · rename_i f ys
    injection ho with ho; subst ho
    obtain ⟨h1, h2⟩ := hp
    obtain ⟨xs, hx⟩ : ∃ xs : List Int, ys = xs.map iD := ⟨_, h1⟩
    subst hx
    simp only [map_dI, List.length_map] at h2 ⊢
    refine dataFunL (C := sumCfg' f) (ctrs_ok [] rfl rfl) rfl Try.func52 (by kernel_rfl) (l := [lp Try.f52 3]) (by kernel_rfl) ?_ (by kernel_rfl) (by kernel_rfl) (by kernel_rfl) (sumN' xs f h2)
    intro x hx
    rw [List.mem_singleton.1 hx]
    exact (sumL' f).fits 3 [] (by kernel_rfl) rfl (sum_round' f)
  · cases ho⟩
end Go.Proofs.Ytgibpomhiilehaa.Dv
