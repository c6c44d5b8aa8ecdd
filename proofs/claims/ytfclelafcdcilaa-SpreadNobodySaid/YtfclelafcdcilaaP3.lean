/- SpreadNobody: the loops. -/
import Derived.Test.YtfclelafcdcilaaP2
set_option linter.unusedVariables false
set_option linter.unusedSimpArgs false
namespace Go.Proofs.Ytfclelafcdcilaa.Dv
open Go Go.Proofs
def mdR (x : Int) : Int := wr .u64 x % 10001
theorem wr_u (x : Int) : 0 ≤ wr .u64 x := by simp only [wr]; omega
theorem mdR_bound (x : Int) : 0 ≤ mdR x ∧ mdR x ≤ 10000 := by unfold mdR; have := wr_u x; omega
theorem mdR_all (l : List Int) : ∀ p ∈ l.map mdR, 0 ≤ p ∧ p ≤ 10000 := fun p hp => by obtain ⟨x, _, rfl⟩ := List.mem_map.1 hp; exact mdR_bound x
theorem oD' (id : Nat) (us : List Int) (k : Int) : outD id (List.map iD (us ++ [k])) = .ms id 0 ((List.map iD us).length + 1) ((List.map iD us).length + 1) false := outD_of (by rw [List.map_append, List.length_append]; rfl)
theorem oR' (us : List Int) (k : Int) : outO 1 (List.map iD (us ++ [k])) = some (.row .own 1 (List.take (List.map iD us).length (List.map iD us) ++ [iD k])) ∧ (List.take (List.map iD us).length (List.map iD us) ++ [iD k]).all D.pure = true := by
  have e : List.take (List.map iD us).length (List.map iD us) ++ [iD k] = List.map iD (us ++ [k]) := by rw [List.take_length, List.map_append]; rfl
  rw [e]
  exact ⟨outO_of (by simp), pure_iD _⟩
def nb7 (f : Bool) (fac turn : Int) (all : List Int) : WLoop :=
  { St := List Int × List Int × List Int
    O := List Int
    T := fun s => [(1, .int .i64 fac), (2, .int .i64 turn), (7, outD 0 (s.2.2.map iD)), (8, .int .i64 s.2.2.sum), (36, .sl f (all.map iD)), (37, .int .i64 (all.map iD).length), (38, .int .i64 s.1.length)]
    S := fun s => [outO 1 (s.2.2.map iD)]
    ok := fun s => s.1 ++ s.2.1 = all ∧ s.2.2 = s.1.map mdR ∧ 1 ≤ all.length ∧ all.length ≤ 64 ∧ (∀ p ∈ all, rI p)
    μ := fun s => s.2.1.length
    m := fun _ => all.map mdR
    src := [(2, true)]
    outs := [{ α := Int × List Int, is := fun o a => o = a.1 :: a.2, ex := .exit 0, src := [(0, true)], T := fun a => [(1, .int .i64 fac), (2, .int .i64 turn), (7, outD 0 ((a.1 :: a.2).map iD)), (8, .int .i64 (a.1 :: a.2).sum)], S := fun a => [outO 1 ((a.1 :: a.2).map iD)] }] }
theorem nb7R (f : Bool) (fac turn : Int) (all : List Int) (s : (nb7 f fac turn all).St) (hs : (nb7 f fac turn all).ok s) : Tri Try.prog 0 167 (lp Try.f4 7) (tb ((nb7 f fac turn all).T s)) ((nb7 f fac turn all).S s) ((nb7 f fac turn all).q 0 s) := by
  obtain ⟨a, r, u⟩ := s
  obtain ⟨h1, h2, h3, h4, h5⟩ := hs
  simp only at h1 h2
  cases r with
  | nil =>
    rw [List.append_nil] at h1
    subst h1
    cases u with
    | nil => have := congrArg List.length h2; simp at this; omega
    | cons y ys =>
      refine round0 (C := sCfg [] [(39, .f)]) (ctrs_ok ([]) rfl rfl) (by kernel_rfl) (by kernel_rfl) (q := decide ((↑a.length : Int) < (↑(List.map iD a).length : Int)) = false ∧ ∃ (a_1 : Int × List Int), List.map mdR a = a_1.fst :: a_1.snd ∧ (D.int IntKind.i64 fac = D.int IntKind.i64 fac ∧ D.int IntKind.i64 turn = D.int IntKind.i64 turn ∧ D.ms (0 : Nat) (0 : Nat) (List.map iD (a_1.fst :: a_1.snd)).length (List.map iD (a_1.fst :: a_1.snd)).length false = D.ms (0 : Nat) (0 : Nat) (List.map iD (y :: ys)).length (List.map iD (y :: ys)).length false ∧ D.int IntKind.i64 (a_1.fst :: a_1.snd).sum = D.int IntKind.i64 (y :: ys).sum) ∧ (some (Ob.row St.own (1 : Nat) (List.map iD (a_1.fst :: a_1.snd))) = none ∨ some (Ob.row St.own (1 : Nat) (List.map iD (a_1.fst :: a_1.snd))) = some (Ob.row St.own (1 : Nat) (List.map iD (y :: ys))) ∧ (List.map iD (y :: ys)).all D.pure = true)) (by kernel_rfl) ?_
      refine ⟨decide_eq_false (by rw [List.length_map]; omega), (y, ys), h2.symm, ?_, .inr ⟨rfl, pure_iD _⟩⟩
      repeat' apply And.intro
      all_goals rfl
  | cons x r =>
    have hg : (List.map iD all)[((a.length : Int)).toNat]? = some (iD x) := by rw [← h1]; exact get_midI iD a x r
    have hll : ((a.length : Int) < ((List.map iD all).length : Int)) := by rw [← h1]; simp; omega
    have hix : D.int .i64 ((a ++ [x]).length : Int) = D.int .i64 ((a.length : Int) + 1) := by simp
    have hal : a.length + (r.length + 1) = all.length := by rw [← h1]; simp
    have hin : inK .i64 ((a.length : Int) + 1) := by simp only [inK]; omega
    have hok : (a ++ [x]) ++ r = all := by rw [← h1]; simp
    cases u with
    | nil =>
      refine round0 (C := sCfg [] [(39, .t), (44, .w)]) (ctrs_ok ([]) rfl rfl) (by kernel_rfl) (by kernel_rfl) (q := decide ((↑a.length : Int) < (↑(List.map iD all).length : Int)) = true ∧ ∃ (y : Int), (0 : Int) ≤ (↑a.length : Int) ∧ (List.map iD all)[(↑a.length : Int).toNat]? = some (D.int IntKind.i64 y) ∧ (0 : Int) ≤ wr IntKind.u64 y ∧ (0 : Int) < (10001 : Int) ∧ inK IntKind.i64 (wr IntKind.u64 y % (10001 : Int)) ∧ inK IntKind.i64 ((1 : Int) - (1 : Int)) ∧ (0 : Int) ≤ (1 : Int) - (1 : Int) ∧ (1 : Int) - (1 : Int) < (1 : Int) ∧ ∃ (x_1 : Int), some (D.int IntKind.i64 (wr IntKind.u64 y % (10001 : Int))) = some (D.int IntKind.i64 x_1) ∧ inK IntKind.i64 ([].sum + x_1) ∧ inK IntKind.i64 ((↑a.length : Int) + (1 : Int)) ∧ ∃ (s' : List Int × List Int × List Int), (s'.fst ++ s'.snd.fst = all ∧ s'.snd.snd = List.map mdR s'.fst ∧ (1 : Nat) ≤ all.length ∧ all.length ≤ (64 : Nat) ∧ ∀ (p : Int), List.Mem p all → rI p) ∧ s'.snd.fst.length.succ ≤ (x :: r).length ∧ List.map mdR all = List.map mdR all ∧ (D.int IntKind.i64 fac = D.int IntKind.i64 fac ∧ D.int IntKind.i64 turn = D.int IntKind.i64 turn ∧ outD (0 : Nat) (List.map iD s'.snd.snd) = D.ms (0 : Nat) (0 : Nat) (1 : Nat) (1 : Nat) false ∧ D.int IntKind.i64 s'.snd.snd.sum = D.int IntKind.i64 ([].sum + x_1) ∧ D.sl f (List.map iD all) = D.sl f (List.map iD all) ∧ D.int IntKind.i64 (↑(List.map iD all).length : Int) = D.int IntKind.i64 (↑(List.map iD all).length : Int) ∧ D.int IntKind.i64 (↑s'.fst.length : Int) = D.int IntKind.i64 ((↑a.length : Int) + (1 : Int))) ∧ (outO (1 : Nat) (List.map iD s'.snd.snd) = none ∨ outO (1 : Nat) (List.map iD s'.snd.snd) = some (Ob.row St.own (1 : Nat) [D.int IntKind.i64 (wr IntKind.u64 y % (10001 : Int))]) ∧ true = true)) (by kernel_rfl) ?_
      have hw := wr_u x
      have hmb := mdR_bound x
      have hmx : wr .u64 x % 10001 = mdR x := rfl
      have hmp : ([] : List Int) ++ [mdR x] = (a ++ [x]).map mdR := by rw [List.map_append, ← h2]; rfl
      have hsb := sumb (l := ([] : List Int)) (by rw [h2]; exact mdR_all a)
      have hul : (([] : List Int)).length ≤ 64 := by rw [h2, List.length_map]; omega
      have hsum := sum_snoc ([] : List Int) (mdR x)
      refine ⟨decide_eq_true hll, x, by omega, hg, by omega, by omega, ink (by omega), ink (by omega), by omega, by omega, mdR x, rfl, ink (by omega), hin, (a ++ [x], r, [] ++ [mdR x]), ⟨hok, hmp, h3, h4, h5⟩, Nat.le_refl _, rfl, ?_, .inr (oR' [] _)⟩
      repeat' apply And.intro
      all_goals first
        | exact rfl
        | exact hix
        | exact oD' _ ([] : List Int) _
        | exact congrArg (D.int .i64) hsum
    | cons y ys =>
      refine round0 (C := sCfg [] [(39, .t), (44, .w)]) (ctrs_ok ([]) rfl rfl) (by kernel_rfl) (by kernel_rfl) (q := decide ((↑a.length : Int) < (↑(List.map iD all).length : Int)) = true ∧ ∃ (y_1 : Int), (0 : Int) ≤ (↑a.length : Int) ∧ (List.map iD all)[(↑a.length : Int).toNat]? = some (D.int IntKind.i64 y_1) ∧ (0 : Int) ≤ wr IntKind.u64 y_1 ∧ (0 : Int) < (10001 : Int) ∧ inK IntKind.i64 (wr IntKind.u64 y_1 % (10001 : Int)) ∧ (0 : Nat) + (List.map iD (y :: ys)).length ≤ (List.map iD (y :: ys)).length ∧ (List.map iD (y :: ys)).length ≤ (List.map iD (y :: ys)).length ∧ ((List.map iD (y :: ys)).length + (1 : Nat)) * (8 : Nat) ≤ (140737488355328 : Nat) ∧ (List.map iD (y :: ys)).length.succ ≤ (List.map iD (y :: ys)).length + (1 : Nat) ∧ (0 : Nat) = (0 : Nat) ∧ inK IntKind.i64 ((↑((List.map iD (y :: ys)).length + (1 : Nat)) : Int) - (1 : Int)) ∧ (0 : Int) ≤ (↑((List.map iD (y :: ys)).length + (1 : Nat)) : Int) - (1 : Int) ∧ (↑((List.map iD (y :: ys)).length + (1 : Nat)) : Int) - (1 : Int) < (↑((List.map iD (y :: ys)).length + (1 : Nat)) : Int) ∧ ∃ (x_1 : Int), (List.take (List.map iD (y :: ys)).length (List.map iD (y :: ys)) ++ [D.int IntKind.i64 (wr IntKind.u64 y_1 % (10001 : Int))])[(0 : Nat) + ((↑((List.map iD (y :: ys)).length + (1 : Nat)) : Int) - (1 : Int)).toNat]? = some (D.int IntKind.i64 x_1) ∧ inK IntKind.i64 ((y :: ys).sum + x_1) ∧ inK IntKind.i64 ((↑a.length : Int) + (1 : Int)) ∧ ∃ (s' : List Int × List Int × List Int), (s'.fst ++ s'.snd.fst = all ∧ s'.snd.snd = List.map mdR s'.fst ∧ (1 : Nat) ≤ all.length ∧ all.length ≤ (64 : Nat) ∧ ∀ (p : Int), List.Mem p all → rI p) ∧ s'.snd.fst.length.succ ≤ (x :: r).length ∧ List.map mdR all = List.map mdR all ∧ (D.int IntKind.i64 fac = D.int IntKind.i64 fac ∧ D.int IntKind.i64 turn = D.int IntKind.i64 turn ∧ outD (0 : Nat) (List.map iD s'.snd.snd) = D.ms (0 : Nat) (0 : Nat) ((List.map iD (y :: ys)).length + (1 : Nat)) ((List.map iD (y :: ys)).length + (1 : Nat)) false ∧ D.int IntKind.i64 s'.snd.snd.sum = D.int IntKind.i64 ((y :: ys).sum + x_1) ∧ D.sl f (List.map iD all) = D.sl f (List.map iD all) ∧ D.int IntKind.i64 (↑(List.map iD all).length : Int) = D.int IntKind.i64 (↑(List.map iD all).length : Int) ∧ D.int IntKind.i64 (↑s'.fst.length : Int) = D.int IntKind.i64 ((↑a.length : Int) + (1 : Int))) ∧ (outO (1 : Nat) (List.map iD s'.snd.snd) = none ∨ outO (1 : Nat) (List.map iD s'.snd.snd) = some (Ob.row St.own (1 : Nat) (List.take (List.map iD (y :: ys)).length (List.map iD (y :: ys)) ++ [D.int IntKind.i64 (wr IntKind.u64 y_1 % (10001 : Int))])) ∧ (List.take (List.map iD (y :: ys)).length (List.map iD (y :: ys)) ++ [D.int IntKind.i64 (wr IntKind.u64 y_1 % (10001 : Int))]).all D.pure = true)) (by kernel_rfl) ?_
      have hw := wr_u x
      have hmb := mdR_bound x
      have hmx : wr .u64 x % 10001 = mdR x := rfl
      have hmp : (y :: ys) ++ [mdR x] = (a ++ [x]).map mdR := by rw [List.map_append, ← h2]; rfl
      have hsb := sumb (l := (y :: ys)) (by rw [h2]; exact mdR_all a)
      have hul : ((y :: ys)).length ≤ 64 := by rw [h2, List.length_map]; omega
      have hsum := sum_snoc (y :: ys) (mdR x)
      have hUl : (List.map iD (y :: ys)).length ≤ 64 := by rw [List.length_map]; exact hul
      have hgx : (List.take (List.map iD (y :: ys)).length (List.map iD (y :: ys)) ++ [.int .i64 (mdR x)])[0 + ((((List.map iD (y :: ys)).length + 1 : Nat) : Int) - 1).toNat]? = some (.int .i64 (mdR x)) := by
        rw [List.take_length, show 0 + ((((List.map iD (y :: ys)).length + 1 : Nat) : Int) - 1).toNat = (List.map iD (y :: ys)).length by omega]
        simp
      refine ⟨decide_eq_true hll, x, by omega, hg, by omega, by omega, ink (by omega), by omega, by omega, by omega, by omega, rfl, ink (by omega), by omega, by omega, mdR x, hgx, ink (by omega), hin, (a ++ [x], r, (y :: ys) ++ [mdR x]), ⟨hok, hmp, h3, h4, h5⟩, Nat.le_refl _, rfl, ?_, .inr (oR' (y :: ys) _)⟩
      repeat' apply And.intro
      all_goals first
        | exact rfl
        | exact hix
        | exact oD' _ (y :: ys) _
        | exact congrArg (D.int .i64) hsum
/-! ### who is far below -/
def FarOk (L : List Int) (sum : Int) (F : List Bool) : Prop := F.length = L.length ∧ (∀ (i : Nat) (x : Int), F[i]? = some true → L[i]? = some x → x * (L.length : Int) < sum) ∧ ∀ (i j : Nat) (x y : Int), F[i]? = some true → F[j]? = some false → L[i]? = some x → L[j]? = some y → x < y
def nb21 (fac turn sum : Int) (L : List Int) (F : List Bool) (i : Nat) (b : Bool) : WLoop :=
  { St := Nat
    O := Unit
    T := fun j => [(1, .int .i64 fac), (2, .int .i64 turn), (7, .ms 0 0 L.length L.length false), (8, .int .i64 sum), (11, .sl false (F.map blD)), (12, .int .i64 i), (13, .bool b), (66, .sl false (F.map blD)), (67, .int .i64 (F.map blD).length), (68, .int .i64 i), (85, .sl false (F.map blD)), (86, .int .i64 (F.map blD).length), (87, .int .i64 j)]
    S := fun _ => [some (.row .cst 1 (L.map iD))]
    ok := fun j => j ≤ F.length ∧ F.length ≤ 64 ∧ FarOk L sum F ∧ F[i]? = some b
    μ := fun j => F.length - j
    m := fun _ => ()
    src := [(0, true)]
    outs := [{ α := Unit, is := fun _ _ => True, ex := .exit 4, src := [(0, true)], T := fun _ => [(1, .int .i64 fac), (2, .int .i64 turn), (7, .ms 0 0 L.length L.length false), (8, .int .i64 sum), (11, .sl false (F.map blD)), (66, .sl false (F.map blD)), (67, .int .i64 (F.map blD).length), (68, .int .i64 i)], S := fun _ => [some (.row .cst 1 (L.map iD))] }] }
theorem nb21R (fac turn sum : Int) (L : List Int) (F : List Bool) (i : Nat) (b : Bool) (j : Nat) (hs : (nb21 fac turn sum L F i b).ok j) : Tri Try.prog 0 167 (lp Try.f4 21) (tb ((nb21 fac turn sum L F i b).T j)) ((nb21 fac turn sum L F i b).S j) ((nb21 fac turn sum L F i b).q 0 j) := by
  obtain ⟨h1, h2, h3, h4⟩ := hs
  refine round0 (C := sCfg [] []) (ctrs_ok ([]) rfl rfl) (by kernel_rfl) (by kernel_rfl) (q := (decide ((↑j : Int) < (↑(List.map blD F).length : Int)) = true → ∃ (y : Bool), (0 : Int) ≤ (↑j : Int) ∧ (List.map blD F)[(↑j : Int).toNat]? = some (D.bool y) ∧ (b = true → ((!y) = true → (0 : Int) ≤ (↑j : Int) ∧ (↑j : Int) < (↑L.length : Int) ∧ ∃ (x : Int), (List.map iD L)[(0 : Nat) + (↑j : Int).toNat]? = some (D.int IntKind.i64 x) ∧ (0 : Int) ≤ (↑i : Int) ∧ (↑i : Int) < (↑L.length : Int) ∧ ∃ (x_1 : Int), (List.map iD L)[(0 : Nat) + (↑i : Int).toNat]? = some (D.int IntKind.i64 x_1) ∧ (decide (x ≤ x_1) = true → False) ∧ (decide (x ≤ x_1) = false → inK IntKind.i64 ((↑j : Int) + (1 : Int)) ∧ ∃ (s' : Nat), (s' ≤ F.length ∧ F.length ≤ (64 : Nat) ∧ (F.length = L.length ∧ (∀ (i : Nat) (x : Int), F[i]? = some true → L[i]? = some x → x * (↑L.length : Int) < sum) ∧ ∀ (i j : Nat) (x y : Int), F[i]? = some true → F[j]? = some false → L[i]? = some x → L[j]? = some y → x < y) ∧ F[i]? = some b) ∧ (F.length - s').succ ≤ F.length - j ∧ () = () ∧ (D.int IntKind.i64 fac = D.int IntKind.i64 fac ∧ D.int IntKind.i64 turn = D.int IntKind.i64 turn ∧ D.ms (0 : Nat) (0 : Nat) L.length L.length false = D.ms (0 : Nat) (0 : Nat) L.length L.length false ∧ D.int IntKind.i64 sum = D.int IntKind.i64 sum ∧ D.sl false (List.map blD F) = D.sl false (List.map blD F) ∧ D.int IntKind.i64 (↑i : Int) = D.int IntKind.i64 (↑i : Int) ∧ D.bool b = D.bool b ∧ D.sl false (List.map blD F) = D.sl false (List.map blD F) ∧ D.int IntKind.i64 (↑(List.map blD F).length : Int) = D.int IntKind.i64 (↑(List.map blD F).length : Int) ∧ D.int IntKind.i64 (↑i : Int) = D.int IntKind.i64 (↑i : Int) ∧ D.sl false (List.map blD F) = D.sl false (List.map blD F) ∧ D.int IntKind.i64 (↑(List.map blD F).length : Int) = D.int IntKind.i64 (↑(List.map blD F).length : Int) ∧ D.int IntKind.i64 (↑s' : Int) = D.int IntKind.i64 ((↑j : Int) + (1 : Int))) ∧ (some (Ob.row St.cst (1 : Nat) (List.map iD L)) = none ∨ some (Ob.row St.cst (1 : Nat) (List.map iD L)) = some (Ob.row St.cst (1 : Nat) (List.map iD L)) ∧ (List.map iD L).all D.pure = true))) ∧ ((!y) = false → inK IntKind.i64 ((↑j : Int) + (1 : Int)) ∧ ∃ (s' : Nat), (s' ≤ F.length ∧ F.length ≤ (64 : Nat) ∧ (F.length = L.length ∧ (∀ (i : Nat) (x : Int), F[i]? = some true → L[i]? = some x → x * (↑L.length : Int) < sum) ∧ ∀ (i j : Nat) (x y : Int), F[i]? = some true → F[j]? = some false → L[i]? = some x → L[j]? = some y → x < y) ∧ F[i]? = some b) ∧ (F.length - s').succ ≤ F.length - j ∧ () = () ∧ (D.int IntKind.i64 fac = D.int IntKind.i64 fac ∧ D.int IntKind.i64 turn = D.int IntKind.i64 turn ∧ D.ms (0 : Nat) (0 : Nat) L.length L.length false = D.ms (0 : Nat) (0 : Nat) L.length L.length false ∧ D.int IntKind.i64 sum = D.int IntKind.i64 sum ∧ D.sl false (List.map blD F) = D.sl false (List.map blD F) ∧ D.int IntKind.i64 (↑i : Int) = D.int IntKind.i64 (↑i : Int) ∧ D.bool b = D.bool b ∧ D.sl false (List.map blD F) = D.sl false (List.map blD F) ∧ D.int IntKind.i64 (↑(List.map blD F).length : Int) = D.int IntKind.i64 (↑(List.map blD F).length : Int) ∧ D.int IntKind.i64 (↑i : Int) = D.int IntKind.i64 (↑i : Int) ∧ D.sl false (List.map blD F) = D.sl false (List.map blD F) ∧ D.int IntKind.i64 (↑(List.map blD F).length : Int) = D.int IntKind.i64 (↑(List.map blD F).length : Int) ∧ D.int IntKind.i64 (↑s' : Int) = D.int IntKind.i64 ((↑j : Int) + (1 : Int))) ∧ (some (Ob.row St.cst (1 : Nat) (List.map iD L)) = none ∨ some (Ob.row St.cst (1 : Nat) (List.map iD L)) = some (Ob.row St.cst (1 : Nat) (List.map iD L)) ∧ (List.map iD L).all D.pure = true))) ∧ (b = false → inK IntKind.i64 ((↑j : Int) + (1 : Int)) ∧ ∃ (s' : Nat), (s' ≤ F.length ∧ F.length ≤ (64 : Nat) ∧ (F.length = L.length ∧ (∀ (i : Nat) (x : Int), F[i]? = some true → L[i]? = some x → x * (↑L.length : Int) < sum) ∧ ∀ (i j : Nat) (x y : Int), F[i]? = some true → F[j]? = some false → L[i]? = some x → L[j]? = some y → x < y) ∧ F[i]? = some b) ∧ (F.length - s').succ ≤ F.length - j ∧ () = () ∧ (D.int IntKind.i64 fac = D.int IntKind.i64 fac ∧ D.int IntKind.i64 turn = D.int IntKind.i64 turn ∧ D.ms (0 : Nat) (0 : Nat) L.length L.length false = D.ms (0 : Nat) (0 : Nat) L.length L.length false ∧ D.int IntKind.i64 sum = D.int IntKind.i64 sum ∧ D.sl false (List.map blD F) = D.sl false (List.map blD F) ∧ D.int IntKind.i64 (↑i : Int) = D.int IntKind.i64 (↑i : Int) ∧ D.bool b = D.bool b ∧ D.sl false (List.map blD F) = D.sl false (List.map blD F) ∧ D.int IntKind.i64 (↑(List.map blD F).length : Int) = D.int IntKind.i64 (↑(List.map blD F).length : Int) ∧ D.int IntKind.i64 (↑i : Int) = D.int IntKind.i64 (↑i : Int) ∧ D.sl false (List.map blD F) = D.sl false (List.map blD F) ∧ D.int IntKind.i64 (↑(List.map blD F).length : Int) = D.int IntKind.i64 (↑(List.map blD F).length : Int) ∧ D.int IntKind.i64 (↑s' : Int) = D.int IntKind.i64 ((↑j : Int) + (1 : Int))) ∧ (some (Ob.row St.cst (1 : Nat) (List.map iD L)) = none ∨ some (Ob.row St.cst (1 : Nat) (List.map iD L)) = some (Ob.row St.cst (1 : Nat) (List.map iD L)) ∧ (List.map iD L).all D.pure = true))) ∧ (decide ((↑j : Int) < (↑(List.map blD F).length : Int)) = false → ∃ (a : Unit), True ∧ (D.int IntKind.i64 fac = D.int IntKind.i64 fac ∧ D.int IntKind.i64 turn = D.int IntKind.i64 turn ∧ D.ms (0 : Nat) (0 : Nat) L.length L.length false = D.ms (0 : Nat) (0 : Nat) L.length L.length false ∧ D.int IntKind.i64 sum = D.int IntKind.i64 sum ∧ D.sl false (List.map blD F) = D.sl false (List.map blD F) ∧ D.sl false (List.map blD F) = D.sl false (List.map blD F) ∧ D.int IntKind.i64 (↑(List.map blD F).length : Int) = D.int IntKind.i64 (↑(List.map blD F).length : Int) ∧ D.int IntKind.i64 (↑i : Int) = D.int IntKind.i64 (↑i : Int)) ∧ (some (Ob.row St.cst (1 : Nat) (List.map iD L)) = none ∨ some (Ob.row St.cst (1 : Nat) (List.map iD L)) = some (Ob.row St.cst (1 : Nat) (List.map iD L)) ∧ (List.map iD L).all D.pure = true))) (by kernel_rfl) ?_
  have hFl : (List.map blD F).length = F.length := List.length_map ..
  have hi : i < F.length := (List.getElem?_eq_some_iff.1 h4).1
  have hlen := h3.1
  refine ⟨fun hlt => ?_, fun hge => ⟨(), trivial, ?_, .inr ⟨rfl, pure_iD _⟩⟩⟩
  · have hlt : j < F.length := by have := of_decide_eq_true hlt; omega
    have hgF : (List.map blD F)[((j : Nat) : Int).toNat]? = some (.bool F[j]) := by rw [Int.toNat_natCast, List.getElem?_map, List.getElem?_eq_getElem hlt]; rfl
    have gL : ∀ k (h : k < L.length), (List.map iD L)[0 + ((k : Nat) : Int).toNat]? = some (.int .i64 L[k]) := fun k h => by rw [Nat.zero_add, Int.toNat_natCast, List.getElem?_map, List.getElem?_eq_getElem h]; rfl
    have inc : inK .i64 ((j : Int) + 1) := ink (by omega)
    have nx : ∀ {P : Nat → Prop}, P (j + 1) → ∃ s', (s' ≤ F.length ∧ F.length ≤ 64 ∧ FarOk L sum F ∧ F[i]? = some b) ∧ (F.length - s').succ ≤ F.length - j ∧ () = () ∧ P s' := fun hp => ⟨j + 1, ⟨by omega, h2, h3, h4⟩, by omega, rfl, hp⟩
    refine ⟨F[j], by omega, hgF, fun hb => ⟨fun hy => ⟨by omega, by omega, L[j]'(by omega), gL j (by omega), by omega, by omega, L[i]'(by omega), gL i (by omega), fun hle => ?_, fun _ => ⟨inc, nx ⟨?_, .inr ⟨rfl, pure_iD _⟩⟩⟩⟩, fun _ => ⟨inc, nx ⟨?_, .inr ⟨rfl, pure_iD _⟩⟩⟩⟩, fun _ => ⟨inc, nx ⟨?_, .inr ⟨rfl, pure_iD _⟩⟩⟩⟩
    · have hle := of_decide_eq_true hle
      have := h3.2.2 i j (L[i]'(by omega)) (L[j]'(by omega)) (by rw [h4, hb]) (by rw [List.getElem?_eq_getElem hlt]; cases h : F[j] with | false => rfl | true => rw [h] at hy; cases hy) (List.getElem?_eq_getElem _) (List.getElem?_eq_getElem _)
      omega
    all_goals repeat' apply And.intro
    all_goals rfl
  · repeat' apply And.intro
    all_goals rfl
def nb31 (fac kk : Int) (L : List Int) (F R : List Bool) (c : Int) (n : Nat) : WLoop :=
  { St := Nat
    O := Unit
    T := fun i => [(1, .int .i64 fac), (7, .ms 0 0 n n false), (11, .sl false (F.map blD)), (16, .int .i64 kk), (17, .sl false (R.map blD)), (18, .ms 1 0 n n true), (132, .int .i64 n), (133, .int .i64 i)]
    S := fun i => [some (.row .cst 1 ((c :: L).map iD)), some (.row .own 1 ((List.replicate i c ++ List.replicate (n - i) 0).map iD))]
    ok := fun i => i ≤ n ∧ n ≤ 64 ∧ n = L.length + 1
    μ := fun i => n - i
    m := fun _ => ()
    src := [(0, true), (1, true)]
    outs := [{ α := Unit, is := fun _ _ => True, ex := .exit 6, src := [(1, true)], T := fun _ => [(1, .int .i64 fac), (11, .sl false (F.map blD)), (16, .int .i64 kk), (17, .sl false (R.map blD)), (18, .ms 0 0 n n true)], S := fun _ => [some (.row .own 1 ((List.replicate n c).map iD))] }] }
theorem nb31R (fac kk : Int) (L : List Int) (F R : List Bool) (c : Int) (n i : Nat) (hs : (nb31 fac kk L F R c n).ok i) : Tri Try.prog 0 167 (lp Try.f4 31) (tb ((nb31 fac kk L F R c n).T i)) ((nb31 fac kk L F R c n).S i) ((nb31 fac kk L F R c n).q 0 i) := by
  obtain ⟨h1, h2, h3⟩ := hs
  refine round0 (C := sCfg [] []) (ctrs_ok ([]) rfl rfl) (by kernel_rfl) (by kernel_rfl) (q := (decide ((↑i : Int) < (↑n : Int)) = true → (0 : Int) ≤ (0 : Int) ∧ (0 : Int) < (↑n : Int) ∧ ∃ (x : Int), some (D.int IntKind.i64 c) = some (D.int IntKind.i64 x) ∧ (0 : Int) ≤ (↑i : Int) ∧ (↑i : Int) < (↑n : Int) ∧ ∃ (x_1 : Int), (List.map iD (List.replicate i c ++ List.replicate (n - i) (0 : Int)))[(0 : Nat) + (↑i : Int).toNat]? = some (D.int IntKind.i64 x_1) ∧ inK IntKind.i64 ((↑i : Int) + (1 : Int)) ∧ ∃ (s' : Nat), (s' ≤ n ∧ n ≤ (64 : Nat) ∧ n = L.length + (1 : Nat)) ∧ (n - s').succ ≤ n - i ∧ () = () ∧ (D.int IntKind.i64 fac = D.int IntKind.i64 fac ∧ D.ms (0 : Nat) (0 : Nat) n n false = D.ms (0 : Nat) (0 : Nat) n n false ∧ D.sl false (List.map blD F) = D.sl false (List.map blD F) ∧ D.int IntKind.i64 kk = D.int IntKind.i64 kk ∧ D.sl false (List.map blD R) = D.sl false (List.map blD R) ∧ D.ms (1 : Nat) (0 : Nat) n n true = D.ms (1 : Nat) (0 : Nat) n n true ∧ D.int IntKind.i64 (↑n : Int) = D.int IntKind.i64 (↑n : Int) ∧ D.int IntKind.i64 (↑s' : Int) = D.int IntKind.i64 ((↑i : Int) + (1 : Int))) ∧ (some (Ob.row St.cst (1 : Nat) (List.map iD (c :: L))) = none ∨ some (Ob.row St.cst (1 : Nat) (List.map iD (c :: L))) = some (Ob.row St.cst (1 : Nat) (List.map iD (c :: L))) ∧ (List.map iD (c :: L)).all D.pure = true) ∧ (some (Ob.row St.own (1 : Nat) (List.map iD (List.replicate s' c ++ List.replicate (n - s') (0 : Int)))) = none ∨ some (Ob.row St.own (1 : Nat) (List.map iD (List.replicate s' c ++ List.replicate (n - s') (0 : Int)))) = some (Ob.row St.own (1 : Nat) ((List.map iD (List.replicate i c ++ List.replicate (n - i) (0 : Int))).set ((0 : Nat) + (↑i : Int).toNat) (D.int IntKind.i64 x))) ∧ ((List.map iD (List.replicate i c ++ List.replicate (n - i) (0 : Int))).set ((0 : Nat) + (↑i : Int).toNat) (D.int IntKind.i64 x)).all D.pure = true)) ∧ (decide ((↑i : Int) < (↑n : Int)) = false → ∃ (a : Unit), True ∧ (D.int IntKind.i64 fac = D.int IntKind.i64 fac ∧ D.sl false (List.map blD F) = D.sl false (List.map blD F) ∧ D.int IntKind.i64 kk = D.int IntKind.i64 kk ∧ D.sl false (List.map blD R) = D.sl false (List.map blD R) ∧ D.ms (0 : Nat) (0 : Nat) n n true = D.ms (0 : Nat) (0 : Nat) n n true) ∧ (some (Ob.row St.own (1 : Nat) (List.map iD (List.replicate n c))) = none ∨ some (Ob.row St.own (1 : Nat) (List.map iD (List.replicate n c))) = some (Ob.row St.own (1 : Nat) (List.map iD (List.replicate i c ++ List.replicate (n - i) (0 : Int)))) ∧ (List.map iD (List.replicate i c ++ List.replicate (n - i) (0 : Int))).all D.pure = true))) (by kernel_rfl) ?_
  refine ⟨fun hlt => ?_, fun hge => ?_⟩
  · have hlt : i < n := by have := of_decide_eq_true hlt; omega
    obtain ⟨d, hd⟩ : ∃ d, n - i = d + 1 := ⟨n - i - 1, by omega⟩
    have hd' : n - (i + 1) = d := by omega
    have hgi : (List.map iD (List.replicate i c ++ List.replicate (n - i) 0))[0 + ((i : Nat) : Int).toNat]? = some (.int .i64 0) := by
      rw [Nat.zero_add, Int.toNat_natCast, hd, List.getElem?_map, List.getElem?_append_right (by simp)]
      simp [List.replicate_succ]; rfl
    have hst : (List.map iD (List.replicate i c ++ List.replicate (n - i) 0)).set (0 + ((i : Nat) : Int).toNat) (.int .i64 c) = List.map iD (List.replicate (i + 1) c ++ List.replicate (n - (i + 1)) 0) := by
      rw [Nat.zero_add, Int.toNat_natCast, hd, hd']
      show (List.map iD _).set i (iD c) = _
      rw [← List.map_set, List.set_append_right _ _ (by simp)]
      rw [show List.replicate (i + 1) c = List.replicate i c ++ [c] from List.replicate_succ', List.append_assoc]
      simp [List.replicate_succ]
    refine ⟨by omega, by omega, c, rfl, by omega, by omega, 0, hgi, ink (by omega), i + 1, ⟨by omega, h2, h3⟩, by omega, rfl, ?_, .inr ⟨rfl, pure_iD _⟩, .inr ⟨?_, ?_⟩⟩
    · repeat' apply And.intro
      all_goals rfl
    · rw [hst]
    · rw [hst]; exact pure_iD _
  · have hin : i = n := by have := of_decide_eq_false hge; omega
    subst hin
    refine ⟨(), trivial, ?_, .inr ⟨?_, pure_iD _⟩⟩
    · repeat' apply And.intro
      all_goals rfl
    · rw [Nat.sub_self]; simp
def nb36 (kk : Int) (F R G : List Bool) : WLoop :=
  { St := Nat
    O := Unit
    T := fun i => [(11, .sl false (F.map blD)), (16, .int .i64 kk), (17, .sl false (R.map blD)), (145, .sl false (G.map blD)), (146, .int .i64 (G.map blD).length), (147, .int .i64 i)]
    ok := fun i => i ≤ G.length ∧ G.length ≤ 64 ∧ ∀ x ∈ G, x = false
    μ := fun i => G.length - i
    m := fun _ => ()
    outs := [{ α := Unit, is := fun _ _ => True, ex := .exit 8, T := fun _ => [(11, .sl false (F.map blD)), (16, .int .i64 kk), (17, .sl false (R.map blD))] }] }
theorem nb36R (kk : Int) (F R G : List Bool) (i : Nat) (hs : (nb36 kk F R G).ok i) : Tri Try.prog 0 167 (lp Try.f4 36) (tb ((nb36 kk F R G).T i)) ((nb36 kk F R G).S i) ((nb36 kk F R G).q 0 i) := by
  obtain ⟨h1, h2, h3⟩ := hs
  refine round0 (C := sCfg [] []) (ctrs_ok ([]) rfl rfl) (by kernel_rfl) (by kernel_rfl) (q := (decide ((↑i : Int) < (↑(List.map blD G).length : Int)) = true → ∃ (y : Bool), (0 : Int) ≤ (↑i : Int) ∧ (List.map blD G)[(↑i : Int).toNat]? = some (D.bool y) ∧ (y = true → False) ∧ (y = false → inK IntKind.i64 ((↑i : Int) + (1 : Int)) ∧ ∃ (s' : Nat), (s' ≤ G.length ∧ G.length ≤ (64 : Nat) ∧ ∀ (x : Bool), List.Mem x G → x = false) ∧ (G.length - s').succ ≤ G.length - i ∧ () = () ∧ D.sl false (List.map blD F) = D.sl false (List.map blD F) ∧ D.int IntKind.i64 kk = D.int IntKind.i64 kk ∧ D.sl false (List.map blD R) = D.sl false (List.map blD R) ∧ D.sl false (List.map blD G) = D.sl false (List.map blD G) ∧ D.int IntKind.i64 (↑(List.map blD G).length : Int) = D.int IntKind.i64 (↑(List.map blD G).length : Int) ∧ D.int IntKind.i64 (↑s' : Int) = D.int IntKind.i64 ((↑i : Int) + (1 : Int)))) ∧ (decide ((↑i : Int) < (↑(List.map blD G).length : Int)) = false → ∃ (a : Unit), True ∧ D.sl false (List.map blD F) = D.sl false (List.map blD F) ∧ D.int IntKind.i64 kk = D.int IntKind.i64 kk ∧ D.sl false (List.map blD R) = D.sl false (List.map blD R))) (by kernel_rfl) ?_
  have hGl : (List.map blD G).length = G.length := List.length_map ..
  refine ⟨fun hlt => ?_, fun hge => ⟨(), trivial, ?_⟩⟩
  · have hlt : i < G.length := by have := of_decide_eq_true hlt; omega
    have hgG : (List.map blD G)[((i : Nat) : Int).toNat]? = some (.bool G[i]) := by rw [Int.toNat_natCast, List.getElem?_map, List.getElem?_eq_getElem hlt]; rfl
    have hf := h3 _ (List.getElem_mem hlt)
    refine ⟨G[i], by omega, hgG, fun h => (by rw [hf] at h; cases h), fun _ => ⟨ink (by omega), i + 1, ⟨by omega, h2, h3⟩, by omega, rfl, ?_⟩⟩
    repeat' apply And.intro
    all_goals rfl
  · repeat' apply And.intro
    all_goals rfl
end Go.Proofs.Ytfclelafcdcilaa.Dv
