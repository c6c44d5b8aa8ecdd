/- Who is far below, whatever is handed (printed by wip/tools/far.py). -/
import Derived.Test.YtfclelafcdcilaaP1
set_option linter.unusedVariables false
set_option linter.unusedSimpArgs false
namespace Go.Proofs.Ytfclelafcdcilaa.Dv
open Go Go.Proofs
def inR (p : Int) : Bool := decide (0 ≤ p ∧ p ≤ 10000)
def farW (fac : Int) (l : List Int) : List Bool := if l.length ≤ 64 ∧ 1 ≤ fac ∧ fac ≤ 10000 ∧ l.all inR = true then farV fac l else []
theorem inR_all {l : List Int} (h : l.all inR = true) : ∀ p ∈ l, 0 ≤ p ∧ p ≤ 10000 := fun p hp => of_decide_eq_true (List.all_eq_true.1 h p hp)

/-! ### triage/spread.Far -/
def fl1 (f : Bool) (fac : Int) (all : List Int) : WLoop :=
  { St := List Int × List Int
    O := Bool
    T := fun s => [(0, .sl f (all.map iD)), (1, .int .i64 fac), (5, .int .i64 s.1.sum), (6, .int .i64 (sq s.1)), (25, .sl f (all.map iD)), (26, .int .i64 (all.map iD).length), (27, .int .i64 s.1.length)]
    ok := fun s => s.1 ++ s.2 = all ∧ all.length ≤ 1000 ∧ (∀ p ∈ s.1, 0 ≤ p ∧ p ≤ 10000)
    μ := fun s => s.2.length
    m := fun s => s.2.all inR
    outs := [{ α := Unit, is := fun o _ => o = true, ex := .exit 0, T := fun _ => [(0, .sl f (all.map iD)), (1, .int .i64 fac), (5, .int .i64 all.sum), (6, .int .i64 (sq all))] }, { α := Unit, is := fun o _ => o = false, ex := .ret, T := fun _ => [(4, .sl true [])] }] }
theorem fl1R (f : Bool) (fac : Int) (all : List Int) (s : (fl1 f fac all).St) (hs : (fl1 f fac all).ok s) : Tri Try.prog 0 83 (lp Try.f10 5) (tb ((fl1 f fac all).T s)) ((fl1 f fac all).S s) ((fl1 f fac all).q 0 s) := by
  obtain ⟨a, r⟩ := s
  obtain ⟨h1, h2, h3⟩ := hs
  simp only at h1 h3
  cases r with
  | nil =>
    rw [List.append_nil] at h1
    subst h1
    refine round0 (C := sCfg [] [(28, .f)]) (ctrs_ok ([]) rfl rfl) (by kernel_rfl) (by kernel_rfl) (q := decide ((↑a.length : Int) < (↑(List.map iD a).length : Int)) = false ∧ ∃ (a_1 : Unit), true = true ∧ D.sl f (List.map iD a) = D.sl f (List.map iD a) ∧ D.int IntKind.i64 fac = D.int IntKind.i64 fac ∧ D.int IntKind.i64 a.sum = D.int IntKind.i64 a.sum ∧ D.int IntKind.i64 (sq a) = D.int IntKind.i64 (sq a)) (by kernel_rfl) ?_
    refine ⟨decide_eq_false (by rw [List.length_map]; omega), (), rfl, ?_⟩
    repeat' apply And.intro
    all_goals rfl
  | cons x r =>
    have hg : (List.map iD all)[((a.length : Int)).toNat]? = some (iD x) := by rw [← h1]; exact get_midI iD a x r
    have hll : ((a.length : Int) < ((List.map iD all).length : Int)) := by rw [← h1]; simp; omega
    have hix : D.int .i64 ((a ++ [x]).length : Int) = D.int .i64 ((a.length : Int) + 1) := by simp
    have hal : a.length + (r.length + 1) = all.length := by rw [← h1]; simp
    have hin : inK .i64 ((a.length : Int) + 1) := by simp only [inK]; omega
    have hok : (a ++ [x]) ++ r = all := by rw [← h1]; simp
    have hab := sumb h3
    refine round0 (C := sCfg [] [(28, .t)]) (ctrs_ok ([]) rfl rfl) (by kernel_rfl) (by kernel_rfl) (q := decide ((↑a.length : Int) < (↑(List.map iD all).length : Int)) = true ∧ ∃ (y : Int), (0 : Int) ≤ (↑a.length : Int) ∧ (List.map iD all)[(↑a.length : Int).toNat]? = some (D.int IntKind.i64 y) ∧ (decide (y < (0 : Int)) = true → ∃ (a : Unit), (x :: r).all inR = false ∧ D.sl true [] = D.sl true []) ∧ (decide (y < (0 : Int)) = false → (decide ((10000 : Int) < y) = true → ∃ (a : Unit), (x :: r).all inR = false ∧ D.sl true [] = D.sl true []) ∧ (decide ((10000 : Int) < y) = false → inK IntKind.i64 (a.sum + y) ∧ inK IntKind.i64 (y * y) ∧ inK IntKind.i64 (sq a + y * y) ∧ inK IntKind.i64 ((↑a.length : Int) + (1 : Int)) ∧ ∃ (s' : List Int × List Int), (s'.fst ++ s'.snd = all ∧ all.length ≤ (1000 : Nat) ∧ ∀ (p : Int), List.Mem p s'.fst → (0 : Int) ≤ p ∧ p ≤ (10000 : Int)) ∧ s'.snd.length.succ ≤ (x :: r).length ∧ s'.snd.all inR = (x :: r).all inR ∧ D.sl f (List.map iD all) = D.sl f (List.map iD all) ∧ D.int IntKind.i64 fac = D.int IntKind.i64 fac ∧ D.int IntKind.i64 s'.fst.sum = D.int IntKind.i64 (a.sum + y) ∧ D.int IntKind.i64 (sq s'.fst) = D.int IntKind.i64 (sq a + y * y) ∧ D.sl f (List.map iD all) = D.sl f (List.map iD all) ∧ D.int IntKind.i64 (↑(List.map iD all).length : Int) = D.int IntKind.i64 (↑(List.map iD all).length : Int) ∧ D.int IntKind.i64 (↑s'.fst.length : Int) = D.int IntKind.i64 ((↑a.length : Int) + (1 : Int))))) (by kernel_rfl) ?_
    have es := sum_snoc a x
    have eq := sq_snoc a x
    have hbad : ¬ (0 ≤ x ∧ x ≤ 10000) → (x :: r).all inR = false := fun h => by rw [List.all_cons, show inR x = false from decide_eq_false h]; rfl
    refine ⟨decide_eq_true hll, x, by omega, hg, fun hx => ⟨(), hbad (by have := of_decide_eq_true hx; omega), ?_⟩, fun hx => ⟨fun hy => ⟨(), hbad (by have := of_decide_eq_true hy; omega), ?_⟩, fun hy => ?_⟩⟩
    · repeat' apply And.intro
      all_goals rfl
    · repeat' apply And.intro
      all_goals rfl
    have hx0 : 0 ≤ x ∧ x ≤ 10000 := by have := of_decide_eq_false hx; have := of_decide_eq_false hy; omega
    have hgood : r.all inR = (x :: r).all inR := by rw [List.all_cons, show inR x = true from decide_eq_true hx0]; rfl
    have hxx := sqb hx0.1 hx0.2
    have h3' : ∀ p ∈ a ++ [x], 0 ≤ p ∧ p ≤ 10000 := fun p hp => by
      rcases List.mem_append.1 hp with h | h
      · exact h3 p h
      · rw [List.mem_singleton.1 h]; exact hx0
    refine ⟨ink (by omega), ink (by omega), ink (by omega), hin, (a ++ [x], r), ⟨hok, h2, h3'⟩, Nat.le_refl _, hgood, ?_⟩
    repeat' apply And.intro
    all_goals first
      | exact rfl
      | exact hix
      | exact congrArg (D.int .i64) es
      | exact congrArg (D.int .i64) eq

/-! ### triage/triageref10.Far -/
def fl1' (f : Bool) (fac : Int) (all : List Int) : WLoop :=
  { St := List Int × List Int
    O := Bool
    T := fun s => [(0, .sl f (all.map iD)), (1, .int .i64 fac), (5, .int .i64 s.1.sum), (6, .int .i64 (sq s.1)), (14, .sl f (all.map iD)), (15, .int .i64 (all.map iD).length), (16, .int .i64 s.1.length)]
    ok := fun s => s.1 ++ s.2 = all ∧ all.length ≤ 1000 ∧ (∀ p ∈ s.1, 0 ≤ p ∧ p ≤ 10000)
    μ := fun s => s.2.length
    m := fun s => s.2.all inR
    outs := [{ α := Unit, is := fun o _ => o = true, ex := .exit 0, T := fun _ => [(0, .sl f (all.map iD)), (1, .int .i64 fac), (5, .int .i64 all.sum), (6, .int .i64 (sq all))] }, { α := Unit, is := fun o _ => o = false, ex := .ret, T := fun _ => [(4, .sl true [])] }] }
theorem fl1R' (f : Bool) (fac : Int) (all : List Int) (s : (fl1' f fac all).St) (hs : (fl1' f fac all).ok s) : Tri Try.prog 0 82 (lp Try.f11 3) (tb ((fl1' f fac all).T s)) ((fl1' f fac all).S s) ((fl1' f fac all).q 0 s) := by
  obtain ⟨a, r⟩ := s
  obtain ⟨h1, h2, h3⟩ := hs
  simp only at h1 h3
  cases r with
  | nil =>
    rw [List.append_nil] at h1
    subst h1
    refine round0 (C := sCfg [] [(17, .f)]) (ctrs_ok ([]) rfl rfl) (by kernel_rfl) (by kernel_rfl) (q := decide ((↑a.length : Int) < (↑(List.map iD a).length : Int)) = false ∧ ∃ (a_1 : Unit), true = true ∧ D.sl f (List.map iD a) = D.sl f (List.map iD a) ∧ D.int IntKind.i64 fac = D.int IntKind.i64 fac ∧ D.int IntKind.i64 a.sum = D.int IntKind.i64 a.sum ∧ D.int IntKind.i64 (sq a) = D.int IntKind.i64 (sq a)) (by kernel_rfl) ?_
    refine ⟨decide_eq_false (by rw [List.length_map]; omega), (), rfl, ?_⟩
    repeat' apply And.intro
    all_goals rfl
  | cons x r =>
    have hg : (List.map iD all)[((a.length : Int)).toNat]? = some (iD x) := by rw [← h1]; exact get_midI iD a x r
    have hll : ((a.length : Int) < ((List.map iD all).length : Int)) := by rw [← h1]; simp; omega
    have hix : D.int .i64 ((a ++ [x]).length : Int) = D.int .i64 ((a.length : Int) + 1) := by simp
    have hal : a.length + (r.length + 1) = all.length := by rw [← h1]; simp
    have hin : inK .i64 ((a.length : Int) + 1) := by simp only [inK]; omega
    have hok : (a ++ [x]) ++ r = all := by rw [← h1]; simp
    have hab := sumb h3
    refine round0 (C := sCfg [] [(17, .t)]) (ctrs_ok ([]) rfl rfl) (by kernel_rfl) (by kernel_rfl) (q := decide ((↑a.length : Int) < (↑(List.map iD all).length : Int)) = true ∧ ∃ (y : Int), (0 : Int) ≤ (↑a.length : Int) ∧ (List.map iD all)[(↑a.length : Int).toNat]? = some (D.int IntKind.i64 y) ∧ (decide (y < (0 : Int)) = true → ∃ (a : Unit), (x :: r).all inR = false ∧ D.sl true [] = D.sl true []) ∧ (decide (y < (0 : Int)) = false → (decide ((10000 : Int) < y) = true → ∃ (a : Unit), (x :: r).all inR = false ∧ D.sl true [] = D.sl true []) ∧ (decide ((10000 : Int) < y) = false → inK IntKind.i64 (a.sum + y) ∧ inK IntKind.i64 (y * y) ∧ inK IntKind.i64 (sq a + y * y) ∧ inK IntKind.i64 ((↑a.length : Int) + (1 : Int)) ∧ ∃ (s' : List Int × List Int), (s'.fst ++ s'.snd = all ∧ all.length ≤ (1000 : Nat) ∧ ∀ (p : Int), List.Mem p s'.fst → (0 : Int) ≤ p ∧ p ≤ (10000 : Int)) ∧ s'.snd.length.succ ≤ (x :: r).length ∧ s'.snd.all inR = (x :: r).all inR ∧ D.sl f (List.map iD all) = D.sl f (List.map iD all) ∧ D.int IntKind.i64 fac = D.int IntKind.i64 fac ∧ D.int IntKind.i64 s'.fst.sum = D.int IntKind.i64 (a.sum + y) ∧ D.int IntKind.i64 (sq s'.fst) = D.int IntKind.i64 (sq a + y * y) ∧ D.sl f (List.map iD all) = D.sl f (List.map iD all) ∧ D.int IntKind.i64 (↑(List.map iD all).length : Int) = D.int IntKind.i64 (↑(List.map iD all).length : Int) ∧ D.int IntKind.i64 (↑s'.fst.length : Int) = D.int IntKind.i64 ((↑a.length : Int) + (1 : Int))))) (by kernel_rfl) ?_
    have es := sum_snoc a x
    have eq := sq_snoc a x
    have hbad : ¬ (0 ≤ x ∧ x ≤ 10000) → (x :: r).all inR = false := fun h => by rw [List.all_cons, show inR x = false from decide_eq_false h]; rfl
    refine ⟨decide_eq_true hll, x, by omega, hg, fun hx => ⟨(), hbad (by have := of_decide_eq_true hx; omega), ?_⟩, fun hx => ⟨fun hy => ⟨(), hbad (by have := of_decide_eq_true hy; omega), ?_⟩, fun hy => ?_⟩⟩
    · repeat' apply And.intro
      all_goals rfl
    · repeat' apply And.intro
      all_goals rfl
    have hx0 : 0 ≤ x ∧ x ≤ 10000 := by have := of_decide_eq_false hx; have := of_decide_eq_false hy; omega
    have hgood : r.all inR = (x :: r).all inR := by rw [List.all_cons, show inR x = true from decide_eq_true hx0]; rfl
    have hxx := sqb hx0.1 hx0.2
    have h3' : ∀ p ∈ a ++ [x], 0 ≤ p ∧ p ≤ 10000 := fun p hp => by
      rcases List.mem_append.1 hp with h | h
      · exact h3 p h
      · rw [List.mem_singleton.1 h]; exact hx0
    refine ⟨ink (by omega), ink (by omega), ink (by omega), hin, (a ++ [x], r), ⟨hok, h2, h3'⟩, Nat.le_refl _, hgood, ?_⟩
    repeat' apply And.intro
    all_goals first
      | exact rfl
      | exact hix
      | exact congrArg (D.int .i64) es
      | exact congrArg (D.int .i64) eq
def fb2 (f : Bool) (fac : Int) (all : List Int) : WLoop :=
  { St := List Int × List Int × List Bool
    O := List Bool
    T := fun s => [(1, .int .i64 fac), (5, .int .i64 all.sum), (6, .int .i64 (sq all)), (9, .int .i64 (all.map iD).length), (10, outD 0 (s.2.2.map blD)), (47, .sl f (all.map iD)), (48, .int .i64 (all.map iD).length), (49, .int .i64 s.1.length)]
    S := fun s => [outO 1 (s.2.2.map blD)]
    ok := fun s => s.1 ++ s.2.1 = all ∧ s.2.2 = s.1.map (farI all.sum (sq all) all.length fac) ∧ all.length ≤ 64 ∧ (∀ p ∈ all, 0 ≤ p ∧ p ≤ 10000) ∧ 1 ≤ fac ∧ fac ≤ 10000
    μ := fun s => s.2.1.length
    m := fun _ => farV fac all
    src := [(2, true)]
    outs := [{ α := Unit, is := fun o _ => o = [], ex := .exit 2, T := fun _ => [(10, .sl true [])] },
      { α := Bool × List Bool, is := fun o a => o = a.1 :: a.2, ex := .exit 2, src := [(0, true)], T := fun a => [(10, outD 0 ((a.1 :: a.2).map blD))], S := fun a => [outO 1 ((a.1 :: a.2).map blD)] }] }
noncomputable def fb2C : List Ctr := [cmpC']
theorem fb2R (f : Bool) (fac : Int) (all : List Int) (s : (fb2 f fac all).St) (hs : (fb2 f fac all).ok s) : Tri Try.prog 0 82 (lp Try.f11 14) (tb ((fb2 f fac all).T s)) ((fb2 f fac all).S s) ((fb2 f fac all).q 0 s) := by
  obtain ⟨a, r, u⟩ := s
  obtain ⟨h1, h2, h3, h4, h5, h6⟩ := hs
  simp only at h1 h2
  cases r with
  | nil =>
    rw [List.append_nil] at h1
    subst h1
    cases u with
    | nil =>
      refine round0 (C := sCfg fb2C [(50, .f)]) (ctrs_ok (fb2C) rfl rfl) (by kernel_rfl) (by kernel_rfl) (q := decide ((↑a.length : Int) < (↑(List.map iD a).length : Int)) = false ∧ ((∃ (a_1 : Unit), farV fac a = [] ∧ D.sl true [] = D.sl true []) ∨ ∃ (a_1 : Bool × List Bool), farV fac a = a_1.fst :: a_1.snd ∧ D.ms (0 : Nat) (0 : Nat) (List.map blD (a_1.fst :: a_1.snd)).length (List.map blD (a_1.fst :: a_1.snd)).length false = D.sl true [] ∧ (some (Ob.row St.own (1 : Nat) (List.map blD (a_1.fst :: a_1.snd))) = none ∨ some (Ob.row St.own (1 : Nat) (List.map blD (a_1.fst :: a_1.snd))) = none ∧ False))) (by kernel_rfl) ?_
      exact ⟨decide_eq_false (by rw [List.length_map]; omega), .inl ⟨(), h2.symm, rfl⟩⟩
    | cons y ys =>
      refine round0 (C := sCfg fb2C [(50, .f)]) (ctrs_ok (fb2C) rfl rfl) (by kernel_rfl) (by kernel_rfl) (q := decide ((↑a.length : Int) < (↑(List.map iD a).length : Int)) = false ∧ ((∃ (a_1 : Unit), farV fac a = [] ∧ D.sl true [] = D.any) ∨ ∃ (a_1 : Bool × List Bool), farV fac a = a_1.fst :: a_1.snd ∧ D.ms (0 : Nat) (0 : Nat) (List.map blD (a_1.fst :: a_1.snd)).length (List.map blD (a_1.fst :: a_1.snd)).length false = D.ms (0 : Nat) (0 : Nat) (List.map blD (y :: ys)).length (List.map blD (y :: ys)).length false ∧ (some (Ob.row St.own (1 : Nat) (List.map blD (a_1.fst :: a_1.snd))) = none ∨ some (Ob.row St.own (1 : Nat) (List.map blD (a_1.fst :: a_1.snd))) = some (Ob.row St.own (1 : Nat) (List.map blD (y :: ys))) ∧ (List.map blD (y :: ys)).all D.pure = true))) (by kernel_rfl) ?_
      exact ⟨decide_eq_false (by rw [List.length_map]; omega), .inr ⟨(y, ys), h2.symm, rfl, .inr ⟨rfl, pure_blD _⟩⟩⟩
  | cons x r =>
    have hg : (List.map iD all)[((a.length : Int)).toNat]? = some (iD x) := by rw [← h1]; exact get_midI iD a x r
    have hll : ((a.length : Int) < ((List.map iD all).length : Int)) := by rw [← h1]; simp; omega
    have hix : D.int .i64 ((a ++ [x]).length : Int) = D.int .i64 ((a.length : Int) + 1) := by simp
    have hal : a.length + (r.length + 1) = all.length := by rw [← h1]; simp
    have hin : inK .i64 ((a.length : Int) + 1) := by simp only [inK]; omega
    have hok : (a ++ [x]) ++ r = all := by rw [← h1]; simp
    have hx := h4 x (by rw [← h1]; simp)
    obtain ⟨b1, b2, b3, b4⟩ := sumb h4
    have hLs : (List.map iD all).length = all.length := List.length_map ..
    have hnx : 0 ≤ (all.length : Int) * x ∧ (all.length : Int) * x ≤ 640000 := ⟨Int.mul_nonneg (by omega) hx.1, Int.le_trans (Int.mul_le_mul_of_nonneg_left hx.2 (by omega)) (by omega)⟩
    have hd := sqL (d := all.sum - (all.length : Int) * x) (by omega) (by omega)
    have hf : 0 ≤ fac * fac ∧ fac * fac ≤ 100000000 := sqb (by omega) h6
    have hQ : 0 ≤ (all.length : Int) * sq all ∧ (all.length : Int) * sq all ≤ 409600000000 := ⟨Int.mul_nonneg (by omega) b3, Int.le_trans (Int.mul_le_mul_of_nonneg_left (show sq all ≤ 6400000000 by omega) (by omega)) (by omega)⟩
    have hS := sqL (d := all.sum) (by omega) (by omega)
    rw [hLs] at hll
    have hmp : ∀ v : Bool, v = farI all.sum (sq all) all.length fac x → u ++ [v] = (a ++ [x]).map (farI all.sum (sq all) all.length fac) := fun v hv => by rw [List.map_append, ← h2, hv]; rfl
    have ht : 0 < all.sum - (all.length : Int) * x → decide (0 < cmpI (pr ((all.sum - (all.length : Int) * x) * (all.sum - (all.length : Int) * x)) 1000000) (pr (fac * fac) ((all.length : Int) * sq all - all.sum * all.sum))) = farI all.sum (sq all) all.length fac x := fun h => (if_pos h).symm
    have hfl : ¬ 0 < all.sum - (all.length : Int) * x → false = farI all.sum (sq all) all.length fac x := fun h => (if_neg h).symm
    cases u with
    | nil =>
      refine round0 (C := sCfg fb2C [(50, .t)]) (ctrs_ok (fb2C) rfl rfl) (by kernel_rfl) (by kernel_rfl) (q := decide ((↑a.length : Int) < (↑(List.map iD all).length : Int)) = true ∧ ∃ (y : Int), (0 : Int) ≤ (↑a.length : Int) ∧ (List.map iD all)[(↑a.length : Int).toNat]? = some (D.int IntKind.i64 y) ∧ inK IntKind.i64 ((↑(List.map iD all).length : Int) * y) ∧ inK IntKind.i64 (all.sum - (↑(List.map iD all).length : Int) * y) ∧ (decide ((0 : Int) < all.sum - (↑(List.map iD all).length : Int) * y) = true → inK IntKind.i64 ((all.sum - (↑(List.map iD all).length : Int) * y) * (all.sum - (↑(List.map iD all).length : Int) * y)) ∧ inK IntKind.i64 (fac * fac) ∧ inK IntKind.i64 ((↑(List.map iD all).length : Int) * sq all) ∧ inK IntKind.i64 (all.sum * all.sum) ∧ inK IntKind.i64 ((↑(List.map iD all).length : Int) * sq all - all.sum * all.sum) ∧ (rI ((all.sum - (↑(List.map iD all).length : Int) * y) * (all.sum - (↑(List.map iD all).length : Int) * y)) ∧ rI (1000000 : Int) ∧ rI (fac * fac) ∧ rI ((↑(List.map iD all).length : Int) * sq all - all.sum * all.sum)) ∧ inK IntKind.i64 ((↑a.length : Int) + (1 : Int)) ∧ ∃ (s' : List Int × List Int × List Bool), (s'.fst ++ s'.snd.fst = all ∧ s'.snd.snd = List.map (farI all.sum (sq all) (↑all.length : Int) fac) s'.fst ∧ all.length ≤ (64 : Nat) ∧ (∀ (p : Int), List.Mem p all → (0 : Int) ≤ p ∧ p ≤ (10000 : Int)) ∧ (1 : Int) ≤ fac ∧ fac ≤ (10000 : Int)) ∧ s'.snd.fst.length.succ ≤ (x :: r).length ∧ farV fac all = farV fac all ∧ (D.int IntKind.i64 fac = D.int IntKind.i64 fac ∧ D.int IntKind.i64 all.sum = D.int IntKind.i64 all.sum ∧ D.int IntKind.i64 (sq all) = D.int IntKind.i64 (sq all) ∧ D.int IntKind.i64 (↑(List.map iD all).length : Int) = D.int IntKind.i64 (↑(List.map iD all).length : Int) ∧ outD (0 : Nat) (List.map blD s'.snd.snd) = D.ms (0 : Nat) (0 : Nat) (1 : Nat) (1 : Nat) false ∧ D.sl f (List.map iD all) = D.sl f (List.map iD all) ∧ D.int IntKind.i64 (↑(List.map iD all).length : Int) = D.int IntKind.i64 (↑(List.map iD all).length : Int) ∧ D.int IntKind.i64 (↑s'.fst.length : Int) = D.int IntKind.i64 ((↑a.length : Int) + (1 : Int))) ∧ (outO (1 : Nat) (List.map blD s'.snd.snd) = none ∨ outO (1 : Nat) (List.map blD s'.snd.snd) = some (Ob.row St.own (1 : Nat) [D.bool (decide ((0 : Int) < cmpI (pr ((all.sum - (↑(List.map iD all).length : Int) * y) * (all.sum - (↑(List.map iD all).length : Int) * y)) (1000000 : Int)) (pr (fac * fac) ((↑(List.map iD all).length : Int) * sq all - all.sum * all.sum))))]) ∧ true = true)) ∧ (decide ((0 : Int) < all.sum - (↑(List.map iD all).length : Int) * y) = false → inK IntKind.i64 ((↑a.length : Int) + (1 : Int)) ∧ ∃ (s' : List Int × List Int × List Bool), (s'.fst ++ s'.snd.fst = all ∧ s'.snd.snd = List.map (farI all.sum (sq all) (↑all.length : Int) fac) s'.fst ∧ all.length ≤ (64 : Nat) ∧ (∀ (p : Int), List.Mem p all → (0 : Int) ≤ p ∧ p ≤ (10000 : Int)) ∧ (1 : Int) ≤ fac ∧ fac ≤ (10000 : Int)) ∧ s'.snd.fst.length.succ ≤ (x :: r).length ∧ farV fac all = farV fac all ∧ (D.int IntKind.i64 fac = D.int IntKind.i64 fac ∧ D.int IntKind.i64 all.sum = D.int IntKind.i64 all.sum ∧ D.int IntKind.i64 (sq all) = D.int IntKind.i64 (sq all) ∧ D.int IntKind.i64 (↑(List.map iD all).length : Int) = D.int IntKind.i64 (↑(List.map iD all).length : Int) ∧ outD (0 : Nat) (List.map blD s'.snd.snd) = D.ms (0 : Nat) (0 : Nat) (1 : Nat) (1 : Nat) false ∧ D.sl f (List.map iD all) = D.sl f (List.map iD all) ∧ D.int IntKind.i64 (↑(List.map iD all).length : Int) = D.int IntKind.i64 (↑(List.map iD all).length : Int) ∧ D.int IntKind.i64 (↑s'.fst.length : Int) = D.int IntKind.i64 ((↑a.length : Int) + (1 : Int))) ∧ (outO (1 : Nat) (List.map blD s'.snd.snd) = none ∨ outO (1 : Nat) (List.map blD s'.snd.snd) = some (Ob.row St.own (1 : Nat) [D.bool false]) ∧ true = true))) (by kernel_rfl) ?_
      rw [hLs]
      refine ⟨decide_eq_true hll, x, by omega, hg, ink (by omega), ink (by omega), fun he => ?_, fun he => ?_⟩
      · have he := of_decide_eq_true he
        refine ⟨ink (by omega), ink (by omega), ink (by omega), ink (by omega), ink (by omega), ⟨by unfold rI; omega, by unfold rI; omega, by unfold rI; omega, by unfold rI; omega⟩, hin, (a ++ [x], r, ([] : List Bool) ++ [decide (0 < cmpI (pr ((all.sum - (all.length : Int) * x) * (all.sum - (all.length : Int) * x)) 1000000) (pr (fac * fac) ((all.length : Int) * sq all - all.sum * all.sum)))]), ⟨hok, hmp _ (ht he), h3, h4, h5, h6⟩, Nat.le_refl _, rfl, ?_, .inr (oRb ([] : List Bool) _)⟩
        repeat' apply And.intro
        all_goals first
          | exact rfl
          | exact hix
          | exact oDb _ ([] : List Bool) _
      · have he := of_decide_eq_false he
        refine ⟨hin, (a ++ [x], r, ([] : List Bool) ++ [false]), ⟨hok, hmp _ (hfl he), h3, h4, h5, h6⟩, Nat.le_refl _, rfl, ?_, .inr (oRb ([] : List Bool) _)⟩
        repeat' apply And.intro
        all_goals first
          | exact rfl
          | exact hix
          | exact oDb _ ([] : List Bool) _
    | cons y ys =>
      refine round0 (C := sCfg fb2C [(50, .t)]) (ctrs_ok (fb2C) rfl rfl) (by kernel_rfl) (by kernel_rfl) (q := decide ((↑a.length : Int) < (↑(List.map iD all).length : Int)) = true ∧ ∃ (y_1 : Int), (0 : Int) ≤ (↑a.length : Int) ∧ (List.map iD all)[(↑a.length : Int).toNat]? = some (D.int IntKind.i64 y_1) ∧ inK IntKind.i64 ((↑(List.map iD all).length : Int) * y_1) ∧ inK IntKind.i64 (all.sum - (↑(List.map iD all).length : Int) * y_1) ∧ (decide ((0 : Int) < all.sum - (↑(List.map iD all).length : Int) * y_1) = true → inK IntKind.i64 ((all.sum - (↑(List.map iD all).length : Int) * y_1) * (all.sum - (↑(List.map iD all).length : Int) * y_1)) ∧ inK IntKind.i64 (fac * fac) ∧ inK IntKind.i64 ((↑(List.map iD all).length : Int) * sq all) ∧ inK IntKind.i64 (all.sum * all.sum) ∧ inK IntKind.i64 ((↑(List.map iD all).length : Int) * sq all - all.sum * all.sum) ∧ (rI ((all.sum - (↑(List.map iD all).length : Int) * y_1) * (all.sum - (↑(List.map iD all).length : Int) * y_1)) ∧ rI (1000000 : Int) ∧ rI (fac * fac) ∧ rI ((↑(List.map iD all).length : Int) * sq all - all.sum * all.sum)) ∧ (0 : Nat) + (List.map blD (y :: ys)).length ≤ (List.map blD (y :: ys)).length ∧ (List.map blD (y :: ys)).length ≤ (List.map blD (y :: ys)).length ∧ ((List.map blD (y :: ys)).length + (1 : Nat)) * (1 : Nat) ≤ (140737488355328 : Nat) ∧ (List.map blD (y :: ys)).length.succ ≤ (List.map blD (y :: ys)).length + (1 : Nat) ∧ (0 : Nat) = (0 : Nat) ∧ inK IntKind.i64 ((↑a.length : Int) + (1 : Int)) ∧ ∃ (s' : List Int × List Int × List Bool), (s'.fst ++ s'.snd.fst = all ∧ s'.snd.snd = List.map (farI all.sum (sq all) (↑all.length : Int) fac) s'.fst ∧ all.length ≤ (64 : Nat) ∧ (∀ (p : Int), List.Mem p all → (0 : Int) ≤ p ∧ p ≤ (10000 : Int)) ∧ (1 : Int) ≤ fac ∧ fac ≤ (10000 : Int)) ∧ s'.snd.fst.length.succ ≤ (x :: r).length ∧ farV fac all = farV fac all ∧ (D.int IntKind.i64 fac = D.int IntKind.i64 fac ∧ D.int IntKind.i64 all.sum = D.int IntKind.i64 all.sum ∧ D.int IntKind.i64 (sq all) = D.int IntKind.i64 (sq all) ∧ D.int IntKind.i64 (↑(List.map iD all).length : Int) = D.int IntKind.i64 (↑(List.map iD all).length : Int) ∧ outD (0 : Nat) (List.map blD s'.snd.snd) = D.ms (0 : Nat) (0 : Nat) ((List.map blD (y :: ys)).length + (1 : Nat)) ((List.map blD (y :: ys)).length + (1 : Nat)) false ∧ D.sl f (List.map iD all) = D.sl f (List.map iD all) ∧ D.int IntKind.i64 (↑(List.map iD all).length : Int) = D.int IntKind.i64 (↑(List.map iD all).length : Int) ∧ D.int IntKind.i64 (↑s'.fst.length : Int) = D.int IntKind.i64 ((↑a.length : Int) + (1 : Int))) ∧ (outO (1 : Nat) (List.map blD s'.snd.snd) = none ∨ outO (1 : Nat) (List.map blD s'.snd.snd) = some (Ob.row St.own (1 : Nat) (List.take (List.map blD (y :: ys)).length (List.map blD (y :: ys)) ++ [D.bool (decide ((0 : Int) < cmpI (pr ((all.sum - (↑(List.map iD all).length : Int) * y_1) * (all.sum - (↑(List.map iD all).length : Int) * y_1)) (1000000 : Int)) (pr (fac * fac) ((↑(List.map iD all).length : Int) * sq all - all.sum * all.sum))))])) ∧ (List.take (List.map blD (y :: ys)).length (List.map blD (y :: ys)) ++ [D.bool (decide ((0 : Int) < cmpI (pr ((all.sum - (↑(List.map iD all).length : Int) * y_1) * (all.sum - (↑(List.map iD all).length : Int) * y_1)) (1000000 : Int)) (pr (fac * fac) ((↑(List.map iD all).length : Int) * sq all - all.sum * all.sum))))]).all D.pure = true)) ∧ (decide ((0 : Int) < all.sum - (↑(List.map iD all).length : Int) * y_1) = false → (0 : Nat) + (List.map blD (y :: ys)).length ≤ (List.map blD (y :: ys)).length ∧ (List.map blD (y :: ys)).length ≤ (List.map blD (y :: ys)).length ∧ ((List.map blD (y :: ys)).length + (1 : Nat)) * (1 : Nat) ≤ (140737488355328 : Nat) ∧ (List.map blD (y :: ys)).length.succ ≤ (List.map blD (y :: ys)).length + (1 : Nat) ∧ (0 : Nat) = (0 : Nat) ∧ inK IntKind.i64 ((↑a.length : Int) + (1 : Int)) ∧ ∃ (s' : List Int × List Int × List Bool), (s'.fst ++ s'.snd.fst = all ∧ s'.snd.snd = List.map (farI all.sum (sq all) (↑all.length : Int) fac) s'.fst ∧ all.length ≤ (64 : Nat) ∧ (∀ (p : Int), List.Mem p all → (0 : Int) ≤ p ∧ p ≤ (10000 : Int)) ∧ (1 : Int) ≤ fac ∧ fac ≤ (10000 : Int)) ∧ s'.snd.fst.length.succ ≤ (x :: r).length ∧ farV fac all = farV fac all ∧ (D.int IntKind.i64 fac = D.int IntKind.i64 fac ∧ D.int IntKind.i64 all.sum = D.int IntKind.i64 all.sum ∧ D.int IntKind.i64 (sq all) = D.int IntKind.i64 (sq all) ∧ D.int IntKind.i64 (↑(List.map iD all).length : Int) = D.int IntKind.i64 (↑(List.map iD all).length : Int) ∧ outD (0 : Nat) (List.map blD s'.snd.snd) = D.ms (0 : Nat) (0 : Nat) ((List.map blD (y :: ys)).length + (1 : Nat)) ((List.map blD (y :: ys)).length + (1 : Nat)) false ∧ D.sl f (List.map iD all) = D.sl f (List.map iD all) ∧ D.int IntKind.i64 (↑(List.map iD all).length : Int) = D.int IntKind.i64 (↑(List.map iD all).length : Int) ∧ D.int IntKind.i64 (↑s'.fst.length : Int) = D.int IntKind.i64 ((↑a.length : Int) + (1 : Int))) ∧ (outO (1 : Nat) (List.map blD s'.snd.snd) = none ∨ outO (1 : Nat) (List.map blD s'.snd.snd) = some (Ob.row St.own (1 : Nat) (List.take (List.map blD (y :: ys)).length (List.map blD (y :: ys)) ++ [D.bool false])) ∧ (List.take (List.map blD (y :: ys)).length (List.map blD (y :: ys)) ++ [D.bool false]).all D.pure = true))) (by kernel_rfl) ?_
      have hUl : (List.map blD (y :: ys)).length ≤ 1000 := by rw [List.length_map, h2, List.length_map]; omega
      rw [hLs]
      refine ⟨decide_eq_true hll, x, by omega, hg, ink (by omega), ink (by omega), fun he => ?_, fun he => ?_⟩
      · have he := of_decide_eq_true he
        refine ⟨ink (by omega), ink (by omega), ink (by omega), ink (by omega), ink (by omega), ⟨by unfold rI; omega, by unfold rI; omega, by unfold rI; omega, by unfold rI; omega⟩, by omega, by omega, by omega, by omega, rfl, hin, (a ++ [x], r, (y :: ys) ++ [decide (0 < cmpI (pr ((all.sum - (all.length : Int) * x) * (all.sum - (all.length : Int) * x)) 1000000) (pr (fac * fac) ((all.length : Int) * sq all - all.sum * all.sum)))]), ⟨hok, hmp _ (ht he), h3, h4, h5, h6⟩, Nat.le_refl _, rfl, ?_, .inr (oRb (y :: ys) _)⟩
        repeat' apply And.intro
        all_goals first
          | exact rfl
          | exact hix
          | exact oDb _ (y :: ys) _
      · have he := of_decide_eq_false he
        refine ⟨by omega, by omega, by omega, by omega, rfl, hin, (a ++ [x], r, (y :: ys) ++ [false]), ⟨hok, hmp _ (hfl he), h3, h4, h5, h6⟩, Nat.le_refl _, rfl, ?_, .inr (oRb (y :: ys) _)⟩
        repeat' apply And.intro
        all_goals first
          | exact rfl
          | exact hix
          | exact oDb _ (y :: ys) _

noncomputable def flCfg (f : Bool) (fac : Int) (l : List Int) : WCfg := { sCfg fa2C [] with loops := fun k => match k with | 5 => some ((fl1 f fac l).row []) | 15 => some ((fa2 f fac l).row [(0, true)]) | _ => none }
theorem flN (f : Bool) (fac : Int) (l : List Int) (h1 : l.length ≤ 1000) : (decide ((64 : Int) < (↑(List.map iD l).length : Int)) = true → D.sl true [] = D.sl (farW fac l).isEmpty (List.map blD (farW fac l))) ∧ (decide ((64 : Int) < (↑(List.map iD l).length : Int)) = false → (decide (fac < (1 : Int)) = true → D.sl true [] = D.sl (farW fac l).isEmpty (List.map blD (farW fac l))) ∧ (decide (fac < (1 : Int)) = false → (decide ((10000 : Int) < fac) = true → D.sl true [] = D.sl (farW fac l).isEmpty (List.map blD (farW fac l))) ∧ (decide ((10000 : Int) < fac) = false → ∃ (b : List Int × List Int), (b.fst ++ b.snd = l ∧ l.length ≤ (1000 : Nat) ∧ ∀ (p : Int), List.Mem p b.fst → (0 : Int) ≤ p ∧ p ≤ (10000 : Int)) ∧ (D.sl f (List.map iD l) = D.sl f (List.map iD l) ∧ D.int IntKind.i64 fac = D.int IntKind.i64 fac ∧ D.int IntKind.i64 b.fst.sum = D.int IntKind.i64 (0 : Int) ∧ D.int IntKind.i64 (sq b.fst) = D.int IntKind.i64 (0 : Int) ∧ D.sl f (List.map iD l) = D.sl f (List.map iD l) ∧ D.int IntKind.i64 (↑(List.map iD l).length : Int) = D.int IntKind.i64 (↑(List.map iD l).length : Int) ∧ D.int IntKind.i64 (↑b.fst.length : Int) = D.int IntKind.i64 (0 : Int)) ∧ (∀ (a : Unit), b.snd.all inR = true → ∃ (b : List Int × List Int × List Bool), (b.fst ++ b.snd.fst = l ∧ b.snd.snd = List.map (farI l.sum (sq l) (↑l.length : Int) fac) b.fst ∧ l.length ≤ (64 : Nat) ∧ (∀ (p : Int), List.Mem p l → (0 : Int) ≤ p ∧ p ≤ (10000 : Int)) ∧ (1 : Int) ≤ fac ∧ fac ≤ (10000 : Int)) ∧ ((D.int IntKind.i64 fac = D.int IntKind.i64 fac ∧ D.int IntKind.i64 l.sum = D.int IntKind.i64 l.sum ∧ D.int IntKind.i64 (sq l) = D.int IntKind.i64 (sq l) ∧ D.int IntKind.i64 (↑(List.map iD l).length : Int) = D.int IntKind.i64 (↑(List.map iD l).length : Int) ∧ outD (0 : Nat) (List.map blD b.snd.snd) = D.sl true [] ∧ D.sl f (List.map iD l) = D.sl f (List.map iD l) ∧ D.int IntKind.i64 (↑(List.map iD l).length : Int) = D.int IntKind.i64 (↑(List.map iD l).length : Int) ∧ D.int IntKind.i64 (↑b.fst.length : Int) = D.int IntKind.i64 (0 : Int)) ∧ (outO (1 : Nat) (List.map blD b.snd.snd) = none ∨ outO (1 : Nat) (List.map blD b.snd.snd) = none ∧ False)) ∧ (∀ (a : Unit), farV fac l = [] → D.sl true [] = D.sl (farW fac l).isEmpty (List.map blD (farW fac l))) ∧ ∀ (a : Bool × List Bool), farV fac l = a.fst :: a.snd → (0 : Nat) + (List.map blD (a.fst :: a.snd)).length ≤ (List.map blD (a.fst :: a.snd)).length ∧ (List.take (List.map blD (a.fst :: a.snd)).length (List.drop (0 : Nat) (List.map blD (a.fst :: a.snd)))).all D.pure = true ∧ D.sl false (List.take (List.map blD (a.fst :: a.snd)).length (List.drop (0 : Nat) (List.map blD (a.fst :: a.snd)))) = D.sl (farW fac l).isEmpty (List.map blD (farW fac l))) ∧ ∀ (a : Unit), b.snd.all inR = false → D.sl true [] = D.sl (farW fac l).isEmpty (List.map blD (farW fac l))))) := by
  have hLs : (List.map iD l).length = l.length := List.length_map ..
  have hnil : ¬ (l.length ≤ 64 ∧ 1 ≤ fac ∧ fac ≤ 10000 ∧ l.all inR = true) → D.sl true [] = D.sl (farW fac l).isEmpty (List.map blD (farW fac l)) := fun h => by unfold farW; rw [if_neg h]; rfl
  have hyes : l.length ≤ 64 → 1 ≤ fac → fac ≤ 10000 → l.all inR = true → farW fac l = farV fac l := fun a b c d => if_pos ⟨a, b, c, d⟩
  refine ⟨fun h => hnil fun hh => by have := of_decide_eq_true h; have := hh.1; omega, fun g0 => ⟨fun h => hnil fun hh => by have := of_decide_eq_true h; have := hh.2.1; omega, fun g1 => ⟨fun h => hnil fun hh => by have := of_decide_eq_true h; have := hh.2.2.1; omega, fun g2 => ?_⟩⟩⟩
  have h64 : l.length ≤ 64 := by have := of_decide_eq_false g0; omega
  have hf1 : 1 ≤ fac := by have := of_decide_eq_false g1; omega
  have hf2 : fac ≤ 10000 := by have := of_decide_eq_false g2; omega
  refine ⟨([], l), ⟨rfl, h1, fun p hp => by cases hp⟩, ?_, fun _ hr => ⟨([], l, []), ⟨rfl, rfl, h64, inR_all hr, hf1, hf2⟩, ⟨?_, .inl rfl⟩, fun _ h => by rw [hyes h64 hf1 hf2 hr, h]; rfl, fun a h => ?_⟩, fun _ hr => hnil fun hh => by rw [hh.2.2.2] at hr; cases hr⟩
  · repeat' apply And.intro
    all_goals rfl
  · repeat' apply And.intro
    all_goals rfl
  · rw [hyes h64 hf1 hf2 hr, h, List.drop_zero, List.take_length]
    exact ⟨by omega, pure_blD _, rfl⟩
def flS (vs : List D) : Option DOut := match vs with | [.sl f xs, .int .i64 fac] => some ⟨∃ l : List Int, xs = l.map iD ∧ l.length ≤ 1000, .sl (farW fac (xs.map dI)).isEmpty ((farW fac (xs.map dI)).map blD)⟩ | _ => none
/-- Who is far below, whatever is handed. -/
def flC : Ctr := ⟨10, flS, by
  intro vs o ho hp
  unfold flS at ho
  split at ho
  · rename_i f xs fac
    injection ho with ho; subst ho
    obtain ⟨l, rfl, h1⟩ := hp
    simp only [map_dI]
    refine dataFunL (C := flCfg f fac l) (ctrs_ok fa2C rfl rfl) rfl Try.func10 (by kernel_rfl) (l := [lp Try.f10 5, lp Try.f10 15]) (by kernel_rfl) ?_ (by kernel_rfl) (by kernel_rfl) (by kernel_rfl) (flN f fac l h1)
    intro x hx
    simp only [List.mem_cons, List.not_mem_nil, or_false] at hx
    rcases hx with rfl | rfl
    · exact (fl1 f fac l).fits 5 [] (by kernel_rfl) rfl (fl1R f fac l)
    · exact (fa2 f fac l).fits 15 [(0, true)] (by kernel_rfl) rfl (fa2R f fac l)
  · cases ho⟩

noncomputable def flCfg' (f : Bool) (fac : Int) (l : List Int) : WCfg := { sCfg fb2C [] with loops := fun k => match k with | 3 => some ((fl1' f fac l).row []) | 14 => some ((fb2 f fac l).row [(0, true)]) | _ => none }
theorem flN' (f : Bool) (fac : Int) (l : List Int) (h1 : l.length ≤ 1000) : ∃ (b : List Int × List Int), (b.fst ++ b.snd = l ∧ l.length ≤ (1000 : Nat) ∧ ∀ (p : Int), List.Mem p b.fst → (0 : Int) ≤ p ∧ p ≤ (10000 : Int)) ∧ (D.sl f (List.map iD l) = D.sl f (List.map iD l) ∧ D.int IntKind.i64 fac = D.int IntKind.i64 fac ∧ D.int IntKind.i64 b.fst.sum = D.int IntKind.i64 (0 : Int) ∧ D.int IntKind.i64 (sq b.fst) = D.int IntKind.i64 (0 : Int) ∧ D.sl f (List.map iD l) = D.sl f (List.map iD l) ∧ D.int IntKind.i64 (↑(List.map iD l).length : Int) = D.int IntKind.i64 (↑(List.map iD l).length : Int) ∧ D.int IntKind.i64 (↑b.fst.length : Int) = D.int IntKind.i64 (0 : Int)) ∧ (∀ (a : Unit), b.snd.all inR = true → (decide ((64 : Int) < (↑(List.map iD l).length : Int)) = true → D.sl true [] = D.sl (farW fac l).isEmpty (List.map blD (farW fac l))) ∧ (decide ((64 : Int) < (↑(List.map iD l).length : Int)) = false → (decide (fac < (1 : Int)) = true → D.sl true [] = D.sl (farW fac l).isEmpty (List.map blD (farW fac l))) ∧ (decide (fac < (1 : Int)) = false → (decide ((10000 : Int) < fac) = true → D.sl true [] = D.sl (farW fac l).isEmpty (List.map blD (farW fac l))) ∧ (decide ((10000 : Int) < fac) = false → ∃ (b : List Int × List Int × List Bool), (b.fst ++ b.snd.fst = l ∧ b.snd.snd = List.map (farI l.sum (sq l) (↑l.length : Int) fac) b.fst ∧ l.length ≤ (64 : Nat) ∧ (∀ (p : Int), List.Mem p l → (0 : Int) ≤ p ∧ p ≤ (10000 : Int)) ∧ (1 : Int) ≤ fac ∧ fac ≤ (10000 : Int)) ∧ ((D.int IntKind.i64 fac = D.int IntKind.i64 fac ∧ D.int IntKind.i64 l.sum = D.int IntKind.i64 l.sum ∧ D.int IntKind.i64 (sq l) = D.int IntKind.i64 (sq l) ∧ D.int IntKind.i64 (↑(List.map iD l).length : Int) = D.int IntKind.i64 (↑(List.map iD l).length : Int) ∧ outD (0 : Nat) (List.map blD b.snd.snd) = D.sl true [] ∧ D.sl f (List.map iD l) = D.sl f (List.map iD l) ∧ D.int IntKind.i64 (↑(List.map iD l).length : Int) = D.int IntKind.i64 (↑(List.map iD l).length : Int) ∧ D.int IntKind.i64 (↑b.fst.length : Int) = D.int IntKind.i64 (0 : Int)) ∧ (outO (1 : Nat) (List.map blD b.snd.snd) = none ∨ outO (1 : Nat) (List.map blD b.snd.snd) = none ∧ False)) ∧ (∀ (a : Unit), farV fac l = [] → D.sl true [] = D.sl (farW fac l).isEmpty (List.map blD (farW fac l))) ∧ ∀ (a : Bool × List Bool), farV fac l = a.fst :: a.snd → (0 : Nat) + (List.map blD (a.fst :: a.snd)).length ≤ (List.map blD (a.fst :: a.snd)).length ∧ (List.take (List.map blD (a.fst :: a.snd)).length (List.drop (0 : Nat) (List.map blD (a.fst :: a.snd)))).all D.pure = true ∧ D.sl false (List.take (List.map blD (a.fst :: a.snd)).length (List.drop (0 : Nat) (List.map blD (a.fst :: a.snd)))) = D.sl (farW fac l).isEmpty (List.map blD (farW fac l)))))) ∧ ∀ (a : Unit), b.snd.all inR = false → D.sl true [] = D.sl (farW fac l).isEmpty (List.map blD (farW fac l)) := by
  have hLs : (List.map iD l).length = l.length := List.length_map ..
  have hnil : ¬ (l.length ≤ 64 ∧ 1 ≤ fac ∧ fac ≤ 10000 ∧ l.all inR = true) → D.sl true [] = D.sl (farW fac l).isEmpty (List.map blD (farW fac l)) := fun h => by unfold farW; rw [if_neg h]; rfl
  have hyes : l.length ≤ 64 → 1 ≤ fac → fac ≤ 10000 → l.all inR = true → farW fac l = farV fac l := fun a b c d => if_pos ⟨a, b, c, d⟩
  refine ⟨([], l), ⟨rfl, h1, fun p hp => by cases hp⟩, ?_, fun _ hr => ⟨fun h => hnil fun hh => by have := of_decide_eq_true h; have := hh.1; omega, fun g0 => ⟨fun h => hnil fun hh => by have := of_decide_eq_true h; have := hh.2.1; omega, fun g1 => ⟨fun h => hnil fun hh => by have := of_decide_eq_true h; have := hh.2.2.1; omega, fun g2 => ?_⟩⟩⟩, fun _ hr => hnil fun hh => by rw [hh.2.2.2] at hr; cases hr⟩
  · repeat' apply And.intro
    all_goals rfl
  have h64 : l.length ≤ 64 := by have := of_decide_eq_false g0; omega
  have hf1 : 1 ≤ fac := by have := of_decide_eq_false g1; omega
  have hf2 : fac ≤ 10000 := by have := of_decide_eq_false g2; omega
  refine ⟨([], l, []), ⟨rfl, rfl, h64, inR_all hr, hf1, hf2⟩, ⟨?_, .inl rfl⟩, fun _ h => by rw [hyes h64 hf1 hf2 hr, h]; rfl, fun a h => ?_⟩
  · repeat' apply And.intro
    all_goals rfl
  · rw [hyes h64 hf1 hf2 hr, h, List.drop_zero, List.take_length]
    exact ⟨by omega, pure_blD _, rfl⟩
def flS' (vs : List D) : Option DOut := match vs with | [.sl f xs, .int .i64 fac] => some ⟨∃ l : List Int, xs = l.map iD ∧ l.length ≤ 1000, .sl (farW fac (xs.map dI)).isEmpty ((farW fac (xs.map dI)).map blD)⟩ | _ => none
/-- Who is far below, whatever is handed. -/
def flC' : Ctr := ⟨11, flS', by
  intro vs o ho hp
  unfold flS' at ho
  split at ho
  · rename_i f xs fac
    injection ho with ho; subst ho
    obtain ⟨l, rfl, h1⟩ := hp
    simp only [map_dI]
    refine dataFunL (C := flCfg' f fac l) (ctrs_ok fb2C rfl rfl) rfl Try.func11 (by kernel_rfl) (l := [lp Try.f11 3, lp Try.f11 14]) (by kernel_rfl) ?_ (by kernel_rfl) (by kernel_rfl) (by kernel_rfl) (flN' f fac l h1)
    intro x hx
    simp only [List.mem_cons, List.not_mem_nil, or_false] at hx
    rcases hx with rfl | rfl
    · exact (fl1' f fac l).fits 3 [] (by kernel_rfl) rfl (fl1R' f fac l)
    · exact (fb2 f fac l).fits 14 [(0, true)] (by kernel_rfl) rfl (fb2R f fac l)
  · cases ho⟩
end Go.Proofs.Ytfclelafcdcilaa.Dv
