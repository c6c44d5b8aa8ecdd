/- ring.Owners: the count, the ids. -/
import Derived.Test.YtfclelafcdcilaaDoorQ6
set_option linter.unusedVariables false
set_option linter.unusedSimpArgs false
namespace Go.Proofs.YtfclelafcdcilaaDoor.Dv
open Go Go.Proofs
def lowP (at' : Int) (p : Pt) : Bool := decide (p.1 < at')
def o14 (n at' : Int) (S : List Pt) (N : Nat) : WLoop :=
  { St := List Pt × List Pt
    O := Nat
    T := fun s => [(2, .int .i64 n), (7, .ms 0 0 N N false), (12, .int .u64 at'), (13, .int .i64 s.1.length)]
    S := fun s => [some (.row .own 2 (S.map ptD))]
    ok := fun s => s.1 ++ s.2 = S ∧ S.length = N ∧ N ≤ 100000
    μ := fun s => s.2.length
    m := fun s => s.1.length + (s.2.takeWhile (lowP at')).length
    src := [(0, true)]
    outs := [{ α := Nat, is := fun o k => o = k, ex := .exit 4, src := [(0, true)], T := fun k => [(2, .int .i64 n), (7, .ms 0 0 N N false), (13, .int .i64 k)], S := fun _ => [some (.row .own 2 (S.map ptD))] }] }
theorem o14R (n at' : Int) (S : List Pt) (N : Nat) (s : (o14 n at' S N).St) (hs : (o14 n at' S N).ok s) : Tri Tryd.prog 0 87 (lp Tryd.f11 14) (tb ((o14 n at' S N).T s)) ((o14 n at' S N).S s) ((o14 n at' S N).q 0 s) := by
  obtain ⟨a, r⟩ := s
  obtain ⟨h1, h2, h3⟩ := hs
  simp only at h1 h2 h3
  cases r with
  | nil =>
    refine round0 (C := gCf 0 [] [] [(46, .f), (55, .f)]) (ctrs_ok ([]) rfl rfl) (by kernel_rfl) (by kernel_rfl) (q := (decide ((↑a.length : Int) < (↑N : Int)) = true → (0 : Int) ≤ (↑a.length : Int) ∧ (↑a.length : Int) < (↑N : Int) ∧ ∃ (x : Int × Int), (List.map ptD S)[(0 : Nat) + (↑a.length : Int).toNat]? = some (D.agg [D.int IntKind.u64 x.fst, D.int IntKind.i64 x.snd]) ∧ decide (x.fst < at') = false ∧ ∃ (a_2 : Nat), a.length + (0 : Nat) = a_2 ∧ (D.int IntKind.i64 n = D.int IntKind.i64 n ∧ D.ms (0 : Nat) (0 : Nat) N N false = D.ms (0 : Nat) (0 : Nat) N N false ∧ D.int IntKind.i64 (↑a_2 : Int) = D.int IntKind.i64 (↑a.length : Int)) ∧ (some (Ob.row St.own (2 : Nat) (List.map ptD S)) = none ∨ some (Ob.row St.own (2 : Nat) (List.map ptD S)) = some (Ob.row St.own (2 : Nat) (List.map ptD S)) ∧ (List.map ptD S).all D.pure = true)) ∧ (decide ((↑a.length : Int) < (↑N : Int)) = false → ∃ (a_2 : Nat), a.length + (0 : Nat) = a_2 ∧ (D.int IntKind.i64 n = D.int IntKind.i64 n ∧ D.ms (0 : Nat) (0 : Nat) N N false = D.ms (0 : Nat) (0 : Nat) N N false ∧ D.int IntKind.i64 (↑a_2 : Int) = D.int IntKind.i64 (↑a.length : Int)) ∧ (some (Ob.row St.own (2 : Nat) (List.map ptD S)) = none ∨ some (Ob.row St.own (2 : Nat) (List.map ptD S)) = some (Ob.row St.own (2 : Nat) (List.map ptD S)) ∧ (List.map ptD S).all D.pure = true))) (by kernel_rfl) ?_
    have hN : a.length = N := by rw [← h2, ← h1, List.append_nil]
    exact ⟨fun h => absurd (of_decide_eq_true h) (by omega), fun _ => ⟨a.length, rfl, ⟨rfl, rfl, rfl⟩, .inr ⟨rfl, pure_ptD _⟩⟩⟩
  | cons p r =>
    refine round0 (C := gCf 0 [] [] [(46, .t)]) (ctrs_ok ([]) rfl rfl) (by kernel_rfl) (by kernel_rfl) (q := (decide ((↑a.length : Int) < (↑N : Int)) = true → (0 : Int) ≤ (↑a.length : Int) ∧ (↑a.length : Int) < (↑N : Int) ∧ ∃ (x : Int × Int), (List.map ptD S)[(0 : Nat) + (↑a.length : Int).toNat]? = some (D.agg [D.int IntKind.u64 x.fst, D.int IntKind.i64 x.snd]) ∧ (decide (x.fst < at') = true → inK IntKind.i64 ((↑a.length : Int) + (1 : Int)) ∧ ∃ (s' : List Pt × List Pt), (s'.fst ++ s'.snd = S ∧ S.length = N ∧ N ≤ (100000 : Nat)) ∧ s'.snd.length.succ ≤ (p :: r).length ∧ s'.fst.length + (List.takeWhile (lowP at') s'.snd).length = a.length + (List.takeWhile (lowP at') (p :: r)).length ∧ (D.int IntKind.i64 n = D.int IntKind.i64 n ∧ D.ms (0 : Nat) (0 : Nat) N N false = D.ms (0 : Nat) (0 : Nat) N N false ∧ D.int IntKind.u64 at' = D.int IntKind.u64 at' ∧ D.int IntKind.i64 (↑s'.fst.length : Int) = D.int IntKind.i64 ((↑a.length : Int) + (1 : Int))) ∧ (some (Ob.row St.own (2 : Nat) (List.map ptD S)) = none ∨ some (Ob.row St.own (2 : Nat) (List.map ptD S)) = some (Ob.row St.own (2 : Nat) (List.map ptD S)) ∧ (List.map ptD S).all D.pure = true)) ∧ (decide (x.fst < at') = false → ∃ (a_3 : Nat), a.length + (List.takeWhile (lowP at') (p :: r)).length = a_3 ∧ (D.int IntKind.i64 n = D.int IntKind.i64 n ∧ D.ms (0 : Nat) (0 : Nat) N N false = D.ms (0 : Nat) (0 : Nat) N N false ∧ D.int IntKind.i64 (↑a_3 : Int) = D.int IntKind.i64 (↑a.length : Int)) ∧ (some (Ob.row St.own (2 : Nat) (List.map ptD S)) = none ∨ some (Ob.row St.own (2 : Nat) (List.map ptD S)) = some (Ob.row St.own (2 : Nat) (List.map ptD S)) ∧ (List.map ptD S).all D.pure = true))) ∧ (decide ((↑a.length : Int) < (↑N : Int)) = false → ∃ (a_2 : Nat), a.length + (List.takeWhile (lowP at') (p :: r)).length = a_2 ∧ (D.int IntKind.i64 n = D.int IntKind.i64 n ∧ D.ms (0 : Nat) (0 : Nat) N N false = D.ms (0 : Nat) (0 : Nat) N N false ∧ D.int IntKind.i64 (↑a_2 : Int) = D.int IntKind.i64 (↑a.length : Int)) ∧ (some (Ob.row St.own (2 : Nat) (List.map ptD S)) = none ∨ some (Ob.row St.own (2 : Nat) (List.map ptD S)) = some (Ob.row St.own (2 : Nat) (List.map ptD S)) ∧ (List.map ptD S).all D.pure = true))) (by kernel_rfl) ?_
    have hN : a.length + (r.length + 1) = N := by rw [← h2, ← h1]; simp
    have hg : (List.map ptD S)[0 + ((a.length : Int)).toNat]? = some (ptD p) := by rw [Nat.zero_add, ← h1]; exact get_midI ptD a p r
    refine ⟨fun _ => ⟨by omega, by omega, p, hg, fun h => ⟨inkQ (by omega), (a ++ [p], r), ⟨by rw [← h1]; simp, h2, h3⟩, Nat.le_refl _, ?_, ⟨rfl, rfl, rfl, by simp⟩, .inr ⟨rfl, pure_ptD _⟩⟩, fun h => ⟨a.length, ?_, ⟨rfl, rfl, rfl⟩, .inr ⟨rfl, pure_ptD _⟩⟩⟩, fun h => absurd (of_decide_eq_false h) (by omega)⟩
    · rw [List.takeWhile_cons, show lowP at' p = true from h, if_pos rfl, List.length_append, List.length_cons]
      show a.length + 1 + (List.takeWhile (lowP at') r).length = a.length + ((List.takeWhile (lowP at') r).length + 1)
      omega
    · rw [List.takeWhile_cons, show lowP at' p = false from h]; rfl
theorem oDi (id : Nat) (us : List Int) (k : Int) : outD id (List.map iD (us ++ [k])) = .ms id 0 ((List.map iD us).length + 1) ((List.map iD us).length + 1) false := outD_ofQ (by rw [List.map_append, List.length_append]; rfl)
theorem oRi (us : List Int) (k : Int) : outO 1 (List.map iD (us ++ [k])) = some (.row .own 1 (List.take (List.map iD us).length (List.map iD us) ++ [iD k])) ∧ (List.take (List.map iD us).length (List.map iD us) ++ [iD k]).all D.pure = true := by
  have e : List.take (List.map iD us).length (List.map iD us) ++ [iD k] = List.map iD (us ++ [k]) := by rw [List.take_length, List.map_append]; rfl
  rw [e]
  exact ⟨outO_ofQ (by simp), pure_iD _⟩
def goO (n : Int) : List Pt → List Int → List Int
  | [], o => o
  | p :: r, o => if n ≤ o.length then o else goO n r (if p.2 ∈ o then o else o ++ [p.2])
def o18 (n : Int) (R : List Pt) (N : Nat) : WLoop :=
  { St := List Pt × List Pt × List Int
    O := List Int
    T := fun s => [(2, .int .i64 n), (14, outD 1 (s.2.2.map iD)), (65, .ms 0 0 N N false), (66, .int .i64 N), (67, .int .i64 s.1.length)]
    S := fun s => [some (.row .own 2 (R.map ptD)), outO 1 (s.2.2.map iD)]
    ok := fun s => s.1 ++ s.2.1 = R ∧ R.length = N ∧ N ≤ 100000 ∧ s.2.2.length ≤ s.1.length
    μ := fun s => s.2.1.length
    m := fun s => goO n s.2.1 s.2.2
    src := [(0, true), (1, true)]
    alts := [[(0, true), (4, true)]]
    outs := [{ α := Unit, is := fun o _ => o = [], ex := .exit 6, src := [], T := fun _ => [(14, .sl true [])] },
      { α := Int × List Int, is := fun o z => o = z.1 :: z.2, ex := .exit 6, src := [(1, true)], T := fun z => [(14, outD 0 ((z.1 :: z.2).map iD))], S := fun z => [outO 1 ((z.1 :: z.2).map iD)] }] }
theorem o18R (n : Int) (R : List Pt) (N : Nat) (s : (o18 n R N).St) (hs : (o18 n R N).ok s) : Tri Tryd.prog 0 87 (lp Tryd.f11 18) (tb ((o18 n R N).T s)) ((o18 n R N).S s) ((o18 n R N).q 0 s) := by
  obtain ⟨a, r, u⟩ := s
  obtain ⟨h1, h2, h3, h4⟩ := hs
  simp only at h1 h2 h3 h4
  cases r with
  | nil =>
    cases u with
    | nil =>
      refine round0 (C := gCf 0 [] [] [(68, .f)]) (ctrs_ok ([]) rfl rfl) (by kernel_rfl) (by kernel_rfl) (q := decide ((↑a.length : Int) < (↑N : Int)) = false ∧ ((∃ (a : Unit), nilT Int = [] ∧ D.sl true [] = D.sl true []) ∨ ∃ (a : Int × List Int), nilT Int = a.fst :: a.snd ∧ D.ms (0 : Nat) (0 : Nat) (List.map iD (a.fst :: a.snd)).length (List.map iD (a.fst :: a.snd)).length false = D.sl true [] ∧ (some (Ob.row St.own (1 : Nat) (List.map iD (a.fst :: a.snd))) = none ∨ some (Ob.row St.own (1 : Nat) (List.map iD (a.fst :: a.snd))) = none ∧ False))) (by kernel_rfl) ?_
      have hN : a.length = N := by rw [← h2, ← h1, List.append_nil]
      exact ⟨decide_eq_false (by omega), .inl ⟨(), rfl, rfl⟩⟩
    | cons e es =>
      refine round0 (C := gCf 0 [] [] [(68, .f)]) (ctrs_ok ([]) rfl rfl) (by kernel_rfl) (by kernel_rfl) (q := decide ((↑a.length : Int) < (↑N : Int)) = false ∧ ((∃ (a : Unit), e :: es = [] ∧ D.sl true [] = D.any) ∨ ∃ (a : Int × List Int), e :: es = a.fst :: a.snd ∧ D.ms (0 : Nat) (0 : Nat) (List.map iD (a.fst :: a.snd)).length (List.map iD (a.fst :: a.snd)).length false = D.ms (0 : Nat) (0 : Nat) (List.map iD (e :: es)).length (List.map iD (e :: es)).length false ∧ (some (Ob.row St.own (1 : Nat) (List.map iD (a.fst :: a.snd))) = none ∨ some (Ob.row St.own (1 : Nat) (List.map iD (a.fst :: a.snd))) = some (Ob.row St.own (1 : Nat) (List.map iD (e :: es))) ∧ (List.map iD (e :: es)).all D.pure = true))) (by kernel_rfl) ?_
      have hN : a.length = N := by rw [← h2, ← h1, List.append_nil]
      exact ⟨decide_eq_false (by omega), .inr ⟨(e, es), rfl, rfl, .inr ⟨rfl, pure_iD _⟩⟩⟩
  | cons p r =>
    cases u with
    | nil =>
      refine round0 (C := gCf 0 owC [] [(68, .t)]) (ctrs_ok (owC) rfl rfl) (by kernel_rfl) (by kernel_rfl) (q := decide ((↑a.length : Int) < (↑N : Int)) = true ∧ (0 : Int) ≤ (↑a.length : Int) ∧ (↑a.length : Int) < (↑N : Int) ∧ ∃ (x : Int × Int), (List.map ptD R)[(0 : Nat) + (↑a.length : Int).toNat]? = some (D.agg [D.int IntKind.u64 x.fst, D.int IntKind.i64 x.snd]) ∧ (decide (n ≤ (0 : Int)) = true → (∃ (a : Unit), goO n (p :: r) [] = [] ∧ D.sl true [] = D.sl true []) ∨ ∃ (a : Int × List Int), goO n (p :: r) [] = a.fst :: a.snd ∧ D.ms (0 : Nat) (0 : Nat) (List.map iD (a.fst :: a.snd)).length (List.map iD (a.fst :: a.snd)).length false = D.sl true [] ∧ (some (Ob.row St.own (1 : Nat) (List.map iD (a.fst :: a.snd))) = none ∨ some (Ob.row St.own (1 : Nat) (List.map iD (a.fst :: a.snd))) = none ∧ False)) ∧ (decide (n ≤ (0 : Int)) = false → ((∃ (l : List Int), nilT D = List.map iD l) ∧ (0 : Nat) ≤ (4398046511104 : Nat)) ∧ (true = true → inK IntKind.i64 ((↑a.length : Int) + (1 : Int)) ∧ ((∃ (s' : List Pt × List Pt × List Int), (s'.fst ++ s'.snd.fst = R ∧ R.length = N ∧ N ≤ (100000 : Nat) ∧ s'.snd.snd.length ≤ s'.fst.length) ∧ s'.snd.fst.length.succ ≤ (p :: r).length ∧ goO n s'.snd.fst s'.snd.snd = goO n (p :: r) [] ∧ (D.int IntKind.i64 n = D.int IntKind.i64 n ∧ outD (1 : Nat) (List.map iD s'.snd.snd) = D.any ∧ D.ms (0 : Nat) (0 : Nat) N N false = D.ms (0 : Nat) (0 : Nat) N N false ∧ D.int IntKind.i64 (↑N : Int) = D.int IntKind.i64 (↑N : Int) ∧ D.int IntKind.i64 (↑s'.fst.length : Int) = D.int IntKind.i64 ((↑a.length : Int) + (1 : Int))) ∧ (some (Ob.row St.own (2 : Nat) (List.map ptD R)) = none ∨ some (Ob.row St.own (2 : Nat) (List.map ptD R)) = some (Ob.row St.own (2 : Nat) (List.map ptD R)) ∧ (List.map ptD R).all D.pure = true) ∧ (outO (1 : Nat) (List.map iD s'.snd.snd) = none ∨ outO (1 : Nat) (List.map iD s'.snd.snd) = none ∧ False)) ∨ ∃ (s' : List Pt × List Pt × List Int), (s'.fst ++ s'.snd.fst = R ∧ R.length = N ∧ N ≤ (100000 : Nat) ∧ s'.snd.snd.length ≤ s'.fst.length) ∧ s'.snd.fst.length.succ ≤ (p :: r).length ∧ goO n s'.snd.fst s'.snd.snd = goO n (p :: r) [] ∧ (D.int IntKind.i64 n = D.int IntKind.i64 n ∧ outD (1 : Nat) (List.map iD s'.snd.snd) = D.ms (1 : Nat) (0 : Nat) (1 : Nat) (1 : Nat) false ∧ D.ms (0 : Nat) (0 : Nat) N N false = D.ms (0 : Nat) (0 : Nat) N N false ∧ D.int IntKind.i64 (↑N : Int) = D.int IntKind.i64 (↑N : Int) ∧ D.int IntKind.i64 (↑s'.fst.length : Int) = D.int IntKind.i64 ((↑a.length : Int) + (1 : Int))) ∧ (some (Ob.row St.own (2 : Nat) (List.map ptD R)) = none ∨ some (Ob.row St.own (2 : Nat) (List.map ptD R)) = some (Ob.row St.own (2 : Nat) (List.map ptD R)) ∧ (List.map ptD R).all D.pure = true) ∧ (outO (1 : Nat) (List.map iD s'.snd.snd) = none ∨ outO (1 : Nat) (List.map iD s'.snd.snd) = some (Ob.row St.own (1 : Nat) [D.int IntKind.i64 x.snd]) ∧ true = true))) ∧ (true = false → inK IntKind.i64 ((↑a.length : Int) + (1 : Int)) ∧ ((∃ (s' : List Pt × List Pt × List Int), (s'.fst ++ s'.snd.fst = R ∧ R.length = N ∧ N ≤ (100000 : Nat) ∧ s'.snd.snd.length ≤ s'.fst.length) ∧ s'.snd.fst.length.succ ≤ (p :: r).length ∧ goO n s'.snd.fst s'.snd.snd = goO n (p :: r) [] ∧ (D.int IntKind.i64 n = D.int IntKind.i64 n ∧ outD (1 : Nat) (List.map iD s'.snd.snd) = D.sl true [] ∧ D.ms (0 : Nat) (0 : Nat) N N false = D.ms (0 : Nat) (0 : Nat) N N false ∧ D.int IntKind.i64 (↑N : Int) = D.int IntKind.i64 (↑N : Int) ∧ D.int IntKind.i64 (↑s'.fst.length : Int) = D.int IntKind.i64 ((↑a.length : Int) + (1 : Int))) ∧ (some (Ob.row St.own (2 : Nat) (List.map ptD R)) = none ∨ some (Ob.row St.own (2 : Nat) (List.map ptD R)) = some (Ob.row St.own (2 : Nat) (List.map ptD R)) ∧ (List.map ptD R).all D.pure = true) ∧ (outO (1 : Nat) (List.map iD s'.snd.snd) = none ∨ outO (1 : Nat) (List.map iD s'.snd.snd) = none ∧ False)) ∨ ∃ (s' : List Pt × List Pt × List Int), (s'.fst ++ s'.snd.fst = R ∧ R.length = N ∧ N ≤ (100000 : Nat) ∧ s'.snd.snd.length ≤ s'.fst.length) ∧ s'.snd.fst.length.succ ≤ (p :: r).length ∧ goO n s'.snd.fst s'.snd.snd = goO n (p :: r) [] ∧ (D.int IntKind.i64 n = D.int IntKind.i64 n ∧ outD (1 : Nat) (List.map iD s'.snd.snd) = D.sl true [] ∧ D.ms (0 : Nat) (0 : Nat) N N false = D.ms (0 : Nat) (0 : Nat) N N false ∧ D.int IntKind.i64 (↑N : Int) = D.int IntKind.i64 (↑N : Int) ∧ D.int IntKind.i64 (↑s'.fst.length : Int) = D.int IntKind.i64 ((↑a.length : Int) + (1 : Int))) ∧ (some (Ob.row St.own (2 : Nat) (List.map ptD R)) = none ∨ some (Ob.row St.own (2 : Nat) (List.map ptD R)) = some (Ob.row St.own (2 : Nat) (List.map ptD R)) ∧ (List.map ptD R).all D.pure = true) ∧ (outO (1 : Nat) (List.map iD s'.snd.snd) = none ∨ outO (1 : Nat) (List.map iD s'.snd.snd) = none ∧ False))))) (by kernel_rfl) ?_
      have hN : a.length + (r.length + 1) = N := by rw [← h2, ← h1]; simp
      have hg : (List.map ptD R)[0 + ((a.length : Int)).toNat]? = some (ptD p) := by rw [Nat.zero_add, ← h1]; exact get_midI ptD a p r
      refine ⟨decide_eq_true (by omega), by omega, by omega, p, hg, fun h => .inl ⟨(), ?_, rfl⟩, fun h => ⟨⟨⟨[], rfl⟩, by omega⟩, fun _ => ⟨inkQ (by omega), .inr ⟨(a ++ [p], r, [p.2]), ⟨by rw [← h1]; simp, h2, h3, by simp⟩, Nat.le_refl _, ?_, ⟨rfl, rfl, rfl, rfl, by simp⟩, .inr ⟨rfl, pure_ptD _⟩, .inr ⟨rfl, rfl⟩⟩⟩, fun h => by cases h⟩⟩
      · rw [goO]; exact if_pos (of_decide_eq_true h)
      · rw [show goO n (p :: r) [] = goO n r (if p.2 ∈ [] then [] else [] ++ [p.2]) from by rw [goO]; exact if_neg (of_decide_eq_false h), if_neg (by simp)]
        rfl
    | cons e es =>
      refine round0 (C := gCf 0 owC [] [(68, .t)]) (ctrs_ok (owC) rfl rfl) (by kernel_rfl) (by kernel_rfl) (q := decide ((↑a.length : Int) < (↑N : Int)) = true ∧ (0 : Int) ≤ (↑a.length : Int) ∧ (↑a.length : Int) < (↑N : Int) ∧ ∃ (x : Int × Int), (List.map ptD R)[(0 : Nat) + (↑a.length : Int).toNat]? = some (D.agg [D.int IntKind.u64 x.fst, D.int IntKind.i64 x.snd]) ∧ (decide (n ≤ (↑(List.map iD (e :: es)).length : Int)) = true → (∃ (a : Unit), goO n (p :: r) (e :: es) = [] ∧ D.sl true [] = D.any) ∨ ∃ (a : Int × List Int), goO n (p :: r) (e :: es) = a.fst :: a.snd ∧ D.ms (0 : Nat) (0 : Nat) (List.map iD (a.fst :: a.snd)).length (List.map iD (a.fst :: a.snd)).length false = D.ms (0 : Nat) (0 : Nat) (List.map iD (e :: es)).length (List.map iD (e :: es)).length false ∧ (some (Ob.row St.own (1 : Nat) (List.map iD (a.fst :: a.snd))) = none ∨ some (Ob.row St.own (1 : Nat) (List.map iD (a.fst :: a.snd))) = some (Ob.row St.own (1 : Nat) (List.map iD (e :: es))) ∧ (List.map iD (e :: es)).all D.pure = true)) ∧ (decide (n ≤ (↑(List.map iD (e :: es)).length : Int)) = false → (0 : Nat) + (List.map iD (e :: es)).length ≤ (List.map iD (e :: es)).length ∧ (List.take (List.map iD (e :: es)).length (List.drop (0 : Nat) (List.map iD (e :: es)))).all D.pure = true ∧ ((∃ (l : List Int), List.take (List.map iD (e :: es)).length (List.drop (0 : Nat) (List.map iD (e :: es))) = List.map iD l) ∧ (List.take (List.map iD (e :: es)).length (List.drop (0 : Nat) (List.map iD (e :: es)))).length ≤ (4398046511104 : Nat)) ∧ ((!decide (x.snd ∈ List.map dI (List.take (List.map iD (e :: es)).length (List.drop (0 : Nat) (List.map iD (e :: es)))))) = true → (0 : Nat) + (List.map iD (e :: es)).length ≤ (List.map iD (e :: es)).length ∧ (List.map iD (e :: es)).length ≤ (List.map iD (e :: es)).length ∧ ((List.map iD (e :: es)).length + (1 : Nat)) * (8 : Nat) ≤ (140737488355328 : Nat) ∧ (List.map iD (e :: es)).length.succ ≤ (List.map iD (e :: es)).length + (1 : Nat) ∧ (0 : Nat) = (0 : Nat) ∧ inK IntKind.i64 ((↑a.length : Int) + (1 : Int)) ∧ ((∃ (s' : List Pt × List Pt × List Int), (s'.fst ++ s'.snd.fst = R ∧ R.length = N ∧ N ≤ (100000 : Nat) ∧ s'.snd.snd.length ≤ s'.fst.length) ∧ s'.snd.fst.length.succ ≤ (p :: r).length ∧ goO n s'.snd.fst s'.snd.snd = goO n (p :: r) (e :: es) ∧ (D.int IntKind.i64 n = D.int IntKind.i64 n ∧ outD (1 : Nat) (List.map iD s'.snd.snd) = D.any ∧ D.ms (0 : Nat) (0 : Nat) N N false = D.ms (0 : Nat) (0 : Nat) N N false ∧ D.int IntKind.i64 (↑N : Int) = D.int IntKind.i64 (↑N : Int) ∧ D.int IntKind.i64 (↑s'.fst.length : Int) = D.int IntKind.i64 ((↑a.length : Int) + (1 : Int))) ∧ (some (Ob.row St.own (2 : Nat) (List.map ptD R)) = none ∨ some (Ob.row St.own (2 : Nat) (List.map ptD R)) = some (Ob.row St.own (2 : Nat) (List.map ptD R)) ∧ (List.map ptD R).all D.pure = true) ∧ (outO (1 : Nat) (List.map iD s'.snd.snd) = none ∨ outO (1 : Nat) (List.map iD s'.snd.snd) = none ∧ False)) ∨ ∃ (s' : List Pt × List Pt × List Int), (s'.fst ++ s'.snd.fst = R ∧ R.length = N ∧ N ≤ (100000 : Nat) ∧ s'.snd.snd.length ≤ s'.fst.length) ∧ s'.snd.fst.length.succ ≤ (p :: r).length ∧ goO n s'.snd.fst s'.snd.snd = goO n (p :: r) (e :: es) ∧ (D.int IntKind.i64 n = D.int IntKind.i64 n ∧ outD (1 : Nat) (List.map iD s'.snd.snd) = D.ms (1 : Nat) (0 : Nat) ((List.map iD (e :: es)).length + (1 : Nat)) ((List.map iD (e :: es)).length + (1 : Nat)) false ∧ D.ms (0 : Nat) (0 : Nat) N N false = D.ms (0 : Nat) (0 : Nat) N N false ∧ D.int IntKind.i64 (↑N : Int) = D.int IntKind.i64 (↑N : Int) ∧ D.int IntKind.i64 (↑s'.fst.length : Int) = D.int IntKind.i64 ((↑a.length : Int) + (1 : Int))) ∧ (some (Ob.row St.own (2 : Nat) (List.map ptD R)) = none ∨ some (Ob.row St.own (2 : Nat) (List.map ptD R)) = some (Ob.row St.own (2 : Nat) (List.map ptD R)) ∧ (List.map ptD R).all D.pure = true) ∧ (outO (1 : Nat) (List.map iD s'.snd.snd) = none ∨ outO (1 : Nat) (List.map iD s'.snd.snd) = some (Ob.row St.own (1 : Nat) (List.take (List.map iD (e :: es)).length (List.map iD (e :: es)) ++ [D.int IntKind.i64 x.snd])) ∧ (List.take (List.map iD (e :: es)).length (List.map iD (e :: es)) ++ [D.int IntKind.i64 x.snd]).all D.pure = true))) ∧ ((!decide (x.snd ∈ List.map dI (List.take (List.map iD (e :: es)).length (List.drop (0 : Nat) (List.map iD (e :: es)))))) = false → inK IntKind.i64 ((↑a.length : Int) + (1 : Int)) ∧ ((∃ (s' : List Pt × List Pt × List Int), (s'.fst ++ s'.snd.fst = R ∧ R.length = N ∧ N ≤ (100000 : Nat) ∧ s'.snd.snd.length ≤ s'.fst.length) ∧ s'.snd.fst.length.succ ≤ (p :: r).length ∧ goO n s'.snd.fst s'.snd.snd = goO n (p :: r) (e :: es) ∧ (D.int IntKind.i64 n = D.int IntKind.i64 n ∧ outD (1 : Nat) (List.map iD s'.snd.snd) = D.ms (1 : Nat) (0 : Nat) (List.map iD (e :: es)).length (List.map iD (e :: es)).length false ∧ D.ms (0 : Nat) (0 : Nat) N N false = D.ms (0 : Nat) (0 : Nat) N N false ∧ D.int IntKind.i64 (↑N : Int) = D.int IntKind.i64 (↑N : Int) ∧ D.int IntKind.i64 (↑s'.fst.length : Int) = D.int IntKind.i64 ((↑a.length : Int) + (1 : Int))) ∧ (some (Ob.row St.own (2 : Nat) (List.map ptD R)) = none ∨ some (Ob.row St.own (2 : Nat) (List.map ptD R)) = some (Ob.row St.own (2 : Nat) (List.map ptD R)) ∧ (List.map ptD R).all D.pure = true) ∧ (outO (1 : Nat) (List.map iD s'.snd.snd) = none ∨ outO (1 : Nat) (List.map iD s'.snd.snd) = some (Ob.row St.own (1 : Nat) (List.map iD (e :: es))) ∧ (List.map iD (e :: es)).all D.pure = true)) ∨ ∃ (s' : List Pt × List Pt × List Int), (s'.fst ++ s'.snd.fst = R ∧ R.length = N ∧ N ≤ (100000 : Nat) ∧ s'.snd.snd.length ≤ s'.fst.length) ∧ s'.snd.fst.length.succ ≤ (p :: r).length ∧ goO n s'.snd.fst s'.snd.snd = goO n (p :: r) (e :: es) ∧ (D.int IntKind.i64 n = D.int IntKind.i64 n ∧ outD (1 : Nat) (List.map iD s'.snd.snd) = D.any ∧ D.ms (0 : Nat) (0 : Nat) N N false = D.ms (0 : Nat) (0 : Nat) N N false ∧ D.int IntKind.i64 (↑N : Int) = D.int IntKind.i64 (↑N : Int) ∧ D.int IntKind.i64 (↑s'.fst.length : Int) = D.int IntKind.i64 ((↑a.length : Int) + (1 : Int))) ∧ (some (Ob.row St.own (2 : Nat) (List.map ptD R)) = none ∨ some (Ob.row St.own (2 : Nat) (List.map ptD R)) = some (Ob.row St.own (2 : Nat) (List.map ptD R)) ∧ (List.map ptD R).all D.pure = true) ∧ (outO (1 : Nat) (List.map iD s'.snd.snd) = none ∨ outO (1 : Nat) (List.map iD s'.snd.snd) = none ∧ False))))) (by kernel_rfl) ?_
      have hN : a.length + (r.length + 1) = N := by rw [← h2, ← h1]; simp
      have hg : (List.map ptD R)[0 + ((a.length : Int)).toNat]? = some (ptD p) := by rw [Nat.zero_add, ← h1]; exact get_midI ptD a p r
      have hE : (List.map iD (e :: es)).length = (e :: es).length := List.length_map ..
      have hT : List.take (List.map iD (e :: es)).length (List.drop 0 (List.map iD (e :: es))) = List.map iD (e :: es) := by rw [List.drop_zero, List.take_length]
      have h4' : (e :: es).length ≤ a.length := h4
      rw [hT, map_dI]
      refine ⟨decide_eq_true (by omega), by omega, by omega, p, hg, fun h => .inr ⟨(e, es), ?_, rfl, .inr ⟨rfl, pure_iD _⟩⟩, fun h => ⟨by omega, pure_iD _, ⟨⟨_, rfl⟩, by omega⟩, fun h5 => ⟨by omega, Nat.le_refl _, by omega, Nat.le_refl _, rfl, inkQ (by omega), .inr ⟨(a ++ [p], r, (e :: es) ++ [p.2]), ⟨by rw [← h1]; simp, h2, h3, by rw [List.length_append, List.length_append]; exact Nat.add_le_add_right h4' 1⟩, Nat.le_refl _, ?_, ⟨rfl, oDi 1 (e :: es) p.2, rfl, rfl, by simp⟩, .inr ⟨rfl, pure_ptD _⟩, .inr (oRi (e :: es) p.2)⟩⟩, fun h5 => ⟨inkQ (by omega), .inl ⟨(a ++ [p], r, e :: es), ⟨by rw [← h1]; simp, h2, h3, by rw [List.length_append]; exact Nat.le_succ_of_le h4'⟩, Nat.le_refl _, ?_, ⟨rfl, rfl, rfl, rfl, by simp⟩, .inr ⟨rfl, pure_ptD _⟩, .inr ⟨rfl, pure_iD _⟩⟩⟩⟩⟩
      · have h := of_decide_eq_true h
        rw [hE] at h
        rw [goO, if_pos h]
      · have h := of_decide_eq_false h
        rw [hE] at h
        rw [show goO n (p :: r) (e :: es) = goO n r (if p.2 ∈ e :: es then e :: es else (e :: es) ++ [p.2]) from by rw [goO, if_neg h], if_neg (of_decide_eq_false ((Bool.not_eq_true' _).mp h5))]
      · have h := of_decide_eq_false h
        rw [hE] at h
        rw [show goO n (p :: r) (e :: es) = goO n r (if p.2 ∈ e :: es then e :: es else (e :: es) ++ [p.2]) from by rw [goO, if_neg h], if_pos (of_decide_eq_true ((Bool.not_eq_false' _).mp h5))]
/-! ### ring.Owners -/
noncomputable def srtP (l : List Hst) : List Pt := srtV cP (ptsOf l)
noncomputable def cutP (at' : Int) (S : List Pt) : Nat := (S.takeWhile (lowP at')).length
noncomputable def rotP (at' : Int) (S : List Pt) : List Pt := S.drop (cutP at' S) ++ S.take (cutP at' S)
noncomputable def ownV (l : List Hst) (key : ByteArray) (n : Int) : List Int := goO n (rotP (textV key) (srtP l)) []
theorem srt0_run : ((runN Tryd.prog M1 60).1 21 [.sl true [], .fn 22 [] []] []) = some (.tup [], []) := by kernel_rfl
def sp0C : Ctr := ⟨21, fun vs => match vs with | [.sl true [], .fn 22 [] []] => some ⟨True, .tup []⟩ | _ => none, by
  intro vs o ho hp
  split at ho
  · injection ho with ho; subst ho
    exact dataFun_run goodM primM mix 60 rfl (by rw [srt0_run]; rfl)
  · cases ho⟩
noncomputable def onCf0 (key : ByteArray) (n : Int) (f : Bool) (l : List Hst) : WCfg := { gCf 0 (sp0C :: owC) [ccC0] [(46, .f), (55, .f), (68, .f)] with unr := fun j => if j = 14 then 1 else if j = 18 then 1 else 0, loops := fun k => match k with | 3 => some ((o3 key n f l).row [(1000, true)]) | _ => none }
noncomputable def onCf (key : ByteArray) (n : Int) (f : Bool) (l : List Hst) (N : Nat) : WCfg := { owCf [] with loops := fun k => match k with | 3 => some ((o3 key n f l).row [(1000, true)]) | 14 => some ((o14 n (textV key) (srtP l) N).row [(0, true)]) | 18 => some ((o18 n (rotP (textV key) (srtP l)) N).row [(2, true), (1000, true)]) | _ => none }
theorem onN0 (key : ByteArray) (n : Int) (f : Bool) (l : List Hst) (h1 : l.length ≤ 1000) (h2 : ∀ h ∈ l, h.small) (h3 : key.size ≤ 9223372036854775807) (he : ptsOf l = []) : ∃ (b : List Hst × List Hst × List Pt), (b.fst ++ b.snd.fst = l ∧ l.length ≤ (1000 : Nat) ∧ b.snd.snd = ptsOf b.fst ∧ ∀ (h : Hst), List.Mem h l → h.small) ∧ ((D.str key = D.str key ∧ D.int IntKind.i64 n = D.int IntKind.i64 n ∧ outD (0 : Nat) (List.map ptD b.snd.snd) = D.sl true [] ∧ D.sl f (List.map hstD l) = D.sl f (List.map hstD l) ∧ D.int IntKind.i64 (↑(List.map hstD l).length : Int) = D.int IntKind.i64 (↑(List.map hstD l).length : Int) ∧ D.int IntKind.i64 (↑b.fst.length : Int) = D.int IntKind.i64 (0 : Int)) ∧ (outO (2 : Nat) (List.map ptD b.snd.snd) = none ∨ outO (2 : Nat) (List.map ptD b.snd.snd) = none ∧ False)) ∧ (∀ (a : Unit), ptsOf l = [] → True ∧ key.size ≤ (9223372036854775807 : Nat) ∧ (false = true → ∃ (y : Int × Int), (0 : Int) ≤ (0 : Int) ∧ none = some (D.agg [D.int IntKind.u64 y.fst, D.int IntKind.i64 y.snd]) ∧ decide (y.fst < textV key) = false ∧ (0 : Int) ≤ (0 : Int) ∧ (0 : Nat) ≤ (0 : Nat) ∧ (0 : Nat) ≤ (0 : Nat) ∧ true = true ∧ (0 : Int) ≤ (0 : Int) ∧ (0 : Nat) ≤ (0 : Nat) ∧ (0 : Nat) ≤ (0 : Nat) ∧ true = true ∧ True ∧ false = false ∧ D.sl true [] = D.sl true []) ∧ (false = false → (0 : Int) ≤ (0 : Int) ∧ (0 : Nat) ≤ (0 : Nat) ∧ (0 : Nat) ≤ (0 : Nat) ∧ true = true ∧ (0 : Int) ≤ (0 : Int) ∧ (0 : Nat) ≤ (0 : Nat) ∧ (0 : Nat) ≤ (0 : Nat) ∧ true = true ∧ True ∧ false = false ∧ D.sl true [] = D.sl true [])) ∧ ∀ (a : Pt × List Pt), ptsOf l = a.fst :: a.snd → (0 : Nat) + (List.map ptD (a.fst :: a.snd)).length ≤ (List.map ptD (a.fst :: a.snd)).length ∧ (List.take (List.map ptD (a.fst :: a.snd)).length (List.drop (0 : Nat) (List.map ptD (a.fst :: a.snd)))).all D.pure = true ∧ False := by
  refine ⟨([], l, []), ⟨rfl, h1, rfl, h2⟩, ⟨⟨rfl, rfl, rfl, rfl, rfl, rfl⟩, .inl rfl⟩, fun _ _ => ⟨trivial, h3, fun h => (by cases h), fun _ => ⟨by omega, by omega, by omega, rfl, by omega, by omega, by omega, rfl, trivial, rfl, rfl⟩⟩, fun a ha => ?_⟩
  rw [he] at ha; cases ha
theorem onN (key : ByteArray) (n : Int) (f : Bool) (l : List Hst) (N : Nat) (h1 : l.length ≤ 1000) (h2 : ∀ h ∈ l, h.small) (h3 : key.size ≤ 9223372036854775807) (hN : (ptsOf l).length = N) (he : ptsOf l ≠ []) : ∃ (b : List Hst × List Hst × List Pt), (b.fst ++ b.snd.fst = l ∧ l.length ≤ (1000 : Nat) ∧ b.snd.snd = ptsOf b.fst ∧ ∀ (h : Hst), List.Mem h l → h.small) ∧ ((D.str key = D.str key ∧ D.int IntKind.i64 n = D.int IntKind.i64 n ∧ outD (0 : Nat) (List.map ptD b.snd.snd) = D.sl true [] ∧ D.sl f (List.map hstD l) = D.sl f (List.map hstD l) ∧ D.int IntKind.i64 (↑(List.map hstD l).length : Int) = D.int IntKind.i64 (↑(List.map hstD l).length : Int) ∧ D.int IntKind.i64 (↑b.fst.length : Int) = D.int IntKind.i64 (0 : Int)) ∧ (outO (2 : Nat) (List.map ptD b.snd.snd) = none ∨ outO (2 : Nat) (List.map ptD b.snd.snd) = none ∧ False)) ∧ (∀ (a : Unit), ptsOf l = [] → False) ∧ ∀ (a : Pt × List Pt), ptsOf l = a.fst :: a.snd → ((List.map ptD (a.fst :: a.snd) = [] → False) ∧ (List.map ptD (a.fst :: a.snd)).length = (List.map ptD (a.fst :: a.snd)).length ∧ (List.map ptD (a.fst :: a.snd)).length.succ ≤ (4611686018427387904 : Nat) ∧ ∃ (l : List Pt), List.map ptD (a.fst :: a.snd) = List.map ptD l) ∧ key.size ≤ (9223372036854775807 : Nat) ∧ ∃ (b : List Pt × List Pt), (b.fst ++ b.snd = srtP l ∧ (srtP l).length = N ∧ N ≤ (100000 : Nat)) ∧ ((D.int IntKind.i64 n = D.int IntKind.i64 n ∧ D.ms (0 : Nat) (0 : Nat) N N false = D.ms (0 : Nat) (0 : Nat) (List.map ptD (a.fst :: a.snd)).length (List.map ptD (a.fst :: a.snd)).length false ∧ D.int IntKind.u64 (textV key) = D.int IntKind.u64 (textV key) ∧ D.int IntKind.i64 (↑b.fst.length : Int) = D.int IntKind.i64 (0 : Int)) ∧ (some (Ob.row St.own (2 : Nat) (List.map ptD (srtP l))) = none ∨ some (Ob.row St.own (2 : Nat) (List.map ptD (srtP l))) = some (Ob.row St.own (2 : Nat) (List.map ptD (srtV cP (List.map dPt (List.map ptD (a.fst :: a.snd)))))) ∧ (List.map ptD (srtV cP (List.map dPt (List.map ptD (a.fst :: a.snd))))).all D.pure = true)) ∧ ∀ (a : Nat), b.fst.length + (List.takeWhile (lowP (textV key)) b.snd).length = a → (0 : Int) ≤ (↑a : Int) ∧ (↑a : Int).toNat ≤ N ∧ N ≤ N ∧ (0 : Int) ≤ (↑a : Int) ∧ (0 : Nat) ≤ (↑a : Int).toNat ∧ (↑a : Int).toNat ≤ N ∧ (((1 : Nat) = (0 : Nat) → False) ∧ (0 : Nat) = (0 : Nat) ∧ (↑a : Int).toNat - (0 : Nat) = (0 : Nat) + (↑a : Int).toNat ∧ (1 : Nat) ≤ (0 : Nat) + (↑a : Int).toNat + (N - (↑a : Int).toNat) ∧ (List.map ptD (srtP l)).length = (0 : Nat) + (↑a : Int).toNat + (N - (↑a : Int).toNat) ∧ (0 : Nat) + (↑a : Int).toNat + (N - (↑a : Int).toNat) ≤ (100000 : Nat) ∧ ∃ (l_1 : List Pt), List.map ptD (srtP l) = List.map ptD l_1) ∧ ∃ (b : List Pt × List Pt × List Int), (b.fst ++ b.snd.fst = rotP (textV key) (srtP l) ∧ (rotP (textV key) (srtP l)).length = N ∧ N ≤ (100000 : Nat) ∧ b.snd.snd.length ≤ b.fst.length) ∧ ((D.int IntKind.i64 n = D.int IntKind.i64 n ∧ outD (1 : Nat) (List.map iD b.snd.snd) = D.sl true [] ∧ D.ms (0 : Nat) (0 : Nat) N N false = D.ms (0 : Nat) (0 : Nat) ((0 : Nat) + (↑a : Int).toNat + (N - (↑a : Int).toNat)) ((0 : Nat) + (↑a : Int).toNat + (N - (↑a : Int).toNat)) false ∧ D.int IntKind.i64 (↑N : Int) = D.int IntKind.i64 (↑((0 : Nat) + (↑a : Int).toNat + (N - (↑a : Int).toNat)) : Int) ∧ D.int IntKind.i64 (↑b.fst.length : Int) = D.int IntKind.i64 (0 : Int)) ∧ (some (Ob.row St.own (2 : Nat) (List.map ptD (rotP (textV key) (srtP l)))) = none ∨ some (Ob.row St.own (2 : Nat) (List.map ptD (rotP (textV key) (srtP l)))) = some (Ob.row St.own (2 : Nat) (List.drop ((0 : Nat) + (↑a : Int).toNat) (List.map ptD (srtP l)) ++ List.take ((0 : Nat) + (↑a : Int).toNat) (List.map ptD (srtP l)))) ∧ (List.drop ((0 : Nat) + (↑a : Int).toNat) (List.map ptD (srtP l)) ++ List.take ((0 : Nat) + (↑a : Int).toNat) (List.map ptD (srtP l))).all D.pure = true) ∧ (outO (1 : Nat) (List.map iD b.snd.snd) = none ∨ outO (1 : Nat) (List.map iD b.snd.snd) = none ∧ False)) ∧ (∀ (a : Unit), goO n b.snd.fst b.snd.snd = [] → D.sl true [] = D.sl (ownV l key n).isEmpty (List.map iD (ownV l key n))) ∧ ∀ (a : Int × List Int), goO n b.snd.fst b.snd.snd = a.fst :: a.snd → (0 : Nat) + (List.map iD (a.fst :: a.snd)).length ≤ (List.map iD (a.fst :: a.snd)).length ∧ (List.take (List.map iD (a.fst :: a.snd)).length (List.drop (0 : Nat) (List.map iD (a.fst :: a.snd)))).all D.pure = true ∧ D.sl false (List.take (List.map iD (a.fst :: a.snd)).length (List.drop (0 : Nat) (List.map iD (a.fst :: a.snd)))) = D.sl (ownV l key n).isEmpty (List.map iD (ownV l key n)) := by
  have hS : (srtP l).length = N := by unfold srtP; rw [srtV_len swoP, hN]
  have hNb : N ≤ 60000 := by have := ptsOf_len l; omega
  have hR : (rotP (textV key) (srtP l)).length = N := by unfold rotP; simp; have : cutP (textV key) (srtP l) ≤ (srtP l).length := by { unfold cutP; exact (List.takeWhile_sublist _).length_le }; omega
  have hc : cutP (textV key) (srtP l) ≤ N := by rw [← hS]; unfold cutP; exact (List.takeWhile_sublist _).length_le
  have hN0 : 0 < N := by rw [← hN]; exact List.length_pos_iff.2 he
  refine ⟨([], l, []), ⟨rfl, h1, rfl, h2⟩, ⟨⟨rfl, rfl, rfl, rfl, rfl, rfl⟩, .inl rfl⟩, fun _ h => he h, fun a ha => ?_⟩
  have hl : (List.map ptD (a.fst :: a.snd)).length = N := by rw [List.length_map, ← ha, hN]
  rw [hl, map_dPt, ← ha]
  refine ⟨⟨fun h => he (List.map_eq_nil_iff.1 h), rfl, by omega, ⟨_, rfl⟩⟩, h3, ([], srtP l), ⟨rfl, hS, by omega⟩, ⟨⟨rfl, rfl, rfl, rfl⟩, .inr ⟨rfl, pure_ptD _⟩⟩, fun k hk => ?_⟩
  have hk : cutP (textV key) (srtP l) = k := hk ▸ (Nat.zero_add _).symm
  subst hk
  have hcn : (((cutP (textV key) (srtP l) : Nat) : Int)).toNat = cutP (textV key) (srtP l) := Int.toNat_natCast _
  rw [hcn]
  have e1 : 0 + cutP (textV key) (srtP l) + (N - cutP (textV key) (srtP l)) = N := by omega
  have e2 : List.drop (0 + cutP (textV key) (srtP l)) (List.map ptD (srtP l)) ++ List.take (0 + cutP (textV key) (srtP l)) (List.map ptD (srtP l)) = List.map ptD (rotP (textV key) (srtP l)) := by
    rw [Nat.zero_add]; unfold rotP; rw [List.map_append, List.map_drop, List.map_take]
  rw [e1, e2]
  refine ⟨by omega, hc, Nat.le_refl _, by omega, by omega, hc, ⟨fun h => (by omega), rfl, by omega, by omega, by rw [List.length_map, hS], by omega, ⟨_, rfl⟩⟩, ([], rotP (textV key) (srtP l), []), ⟨rfl, hR, by omega, Nat.le_refl _⟩, ⟨⟨rfl, rfl, rfl, rfl, rfl⟩, .inr ⟨rfl, pure_ptD _⟩, .inl rfl⟩, fun _ hg => ?_, fun z hg => ?_⟩
  · have hv : ownV l key n = [] := hg
    rw [hv]; rfl
  · have hv : ownV l key n = z.1 :: z.2 := hg
    rw [hv, List.drop_zero, List.take_length]
    exact ⟨by omega, pure_iD _, rfl⟩
def dHst : D → Hst
  | .agg [.int _ a, .str addr, .int _ b, .str zone, .int _ c, .sl f xs] => ⟨a, addr, b, zone, c, f, xs.map dPairQ⟩
  | _ => ⟨0, .empty, 0, .empty, 0, false, []⟩
theorem dHst_hstD (h : Hst) : dHst (hstD h) = h := by
  show Hst.mk h.id h.addr h.prio h.zone h.w h.f ((h.mt.map pairQ).map dPairQ) = h
  rw [map_dPairQ]
theorem map_dHst (l : List Hst) : (l.map hstD).map dHst = l := by rw [List.map_map]; exact (List.map_congr_left fun x _ => dHst_hstD x).trans (List.map_id l)
theorem pure_hstD (l : List Hst) : (l.map hstD).all D.pure = true := by
  rw [List.all_eq_true]; intro x hx; obtain ⟨n, _, rfl⟩ := List.mem_map.1 hx
  show ([D.int .i64 n.id, .str n.addr, .int .i64 n.prio, .str n.zone, .int .i64 n.w, .sl n.f (n.mt.map pairQ)] : List D).all D.pure = true
  simp only [List.all_cons, List.all_nil, D.pure, Bool.and_true, Bool.true_and]
  rfl
theorem srtV_nil : srtV cP ([] : List Pt) = [] := List.length_eq_zero_iff.1 (srtV_len swoP [])
noncomputable def onS (vs : List D) : Option DOut := match vs with | [.sl f xs, .str key, .int .i64 n] => some ⟨(∃ l : List Hst, xs = l.map hstD ∧ l.length ≤ 1000 ∧ ∀ h ∈ l, h.small) ∧ key.size ≤ 9223372036854775807, .sl (ownV (xs.map dHst) key n).isEmpty ((ownV (xs.map dHst) key n).map iD)⟩ | _ => none
/-- ring.Owners. -/
noncomputable def onC : Ctr := ⟨11, onS, by
  intro vs o ho hp
  unfold onS at ho
  split at ho
  · rename_i f xs key n
    injection ho with ho; subst ho
    obtain ⟨⟨l, rfl, h1, h2⟩, h3⟩ := hp
    simp only
    rw [map_dHst]
    by_cases he : ptsOf l = []
    · have hv : ownV l key n = [] := by unfold ownV srtP; rw [he, srtV_nil]; rfl
      rw [hv]
      exact dataFunL (C := onCf0 key n f l) (ctrsR_ok (sp0C :: owC) [ccC0] rfl rfl rfl rfl) rfl Tryd.func11 (by kernel_rfl) (l := [lp Tryd.f11 3]) (by kernel_rfl) (fun x hx => by
        rw [List.mem_singleton.1 hx]; exact (o3 key n f l).fits 3 [(1000, true)] (by kernel_rfl) rfl (o3R key n f l)) (by kernel_rfl) rfl (by kernel_rfl) (onN0 key n f l h1 h2 h3 he)
    · exact dataFunL (C := onCf key n f l (ptsOf l).length) (ctrsR_ok owC [spC, ccC] rfl rfl rfl rfl) rfl Tryd.func11 (by kernel_rfl) (l := [lp Tryd.f11 3, lp Tryd.f11 14, lp Tryd.f11 18]) (by kernel_rfl) (fun x hx => by
        simp only [List.mem_cons, List.not_mem_nil, or_false] at hx
        rcases hx with rfl | rfl | rfl
        · exact (o3 key n f l).fits 3 [(1000, true)] (by kernel_rfl) rfl (o3R key n f l)
        · exact (o14 n (textV key) (srtP l) (ptsOf l).length).fits 14 [(0, true)] (by kernel_rfl) rfl (o14R n (textV key) (srtP l) (ptsOf l).length)
        · exact (o18 n (rotP (textV key) (srtP l)) (ptsOf l).length).fits 18 [(2, true), (1000, true)] (by kernel_rfl) rfl (o18R n (rotP (textV key) (srtP l)) (ptsOf l).length)) (by kernel_rfl) rfl (by kernel_rfl) (onN key n f l (ptsOf l).length h1 h2 h3 rfl he)
  · cases ho⟩
noncomputable def owrV (l : List Hst) (key : ByteArray) : Option Int := (ownV l key 1).head?
theorem orN' (f : Bool) (l : List Hst) (key : ByteArray) (h1 : l.length ≤ 1000) (h2 : ∀ h ∈ l, h.small) (h3 : key.size ≤ 9223372036854775807) : ((∃ (l_1 : List Hst), List.map hstD l = List.map hstD l_1 ∧ l_1.length ≤ (1000 : Nat) ∧ ∀ (h : Hst), List.Mem h l_1 → h.small) ∧ key.size ≤ (9223372036854775807 : Nat)) ∧ (decide ((↑(List.map iD (ownV (List.map dHst (List.map hstD l)) key (1 : Int))).length : Int) = (0 : Int)) = true → D.tup [D.int IntKind.i64 (0 : Int), D.bool false] = D.tup [D.int IntKind.i64 ((owrV l key).getD (0 : Int)), D.bool (owrV l key).isSome]) ∧ (decide ((↑(List.map iD (ownV (List.map dHst (List.map hstD l)) key (1 : Int))).length : Int) = (0 : Int)) = false → ∃ (y : Int), (0 : Int) ≤ (0 : Int) ∧ (List.map iD (ownV (List.map dHst (List.map hstD l)) key (1 : Int)))[(0 : Nat)]? = some (D.int IntKind.i64 y) ∧ D.tup [D.int IntKind.i64 y, D.bool true] = D.tup [D.int IntKind.i64 ((owrV l key).getD (0 : Int)), D.bool (owrV l key).isSome]) := by
  rw [map_dHst, List.length_map]
  refine ⟨⟨⟨l, rfl, h1, h2⟩, h3⟩, fun h => ?_, fun h => ?_⟩
  · have : ownV l key 1 = [] := List.length_eq_zero_iff.1 (by have := of_decide_eq_true h; omega)
    unfold owrV; rw [this]; rfl
  · have h := of_decide_eq_false h
    unfold owrV
    match e : ownV l key 1, h with
    | [], h => exact absurd rfl h
    | x :: r, h => exact ⟨x, by omega, rfl, rfl⟩
noncomputable def orS (vs : List D) : Option DOut := match vs with | [.sl f xs, .str key] => some ⟨(∃ l : List Hst, xs = l.map hstD ∧ l.length ≤ 1000 ∧ ∀ h ∈ l, h.small) ∧ key.size ≤ 9223372036854775807, .tup [.int .i64 ((owrV (xs.map dHst) key).getD 0), .bool (owrV (xs.map dHst) key).isSome]⟩ | _ => none
/-- ring.Owner. -/
noncomputable def owrC : Ctr := ⟨10, orS, by
  intro vs o ho hp
  unfold orS at ho
  split at ho
  · rename_i f xs key
    injection ho with ho; subst ho
    obtain ⟨⟨l, rfl, h1, h2⟩, h3⟩ := hp
    simp only
    rw [map_dHst]
    exact dataFun0 (C := gCf 0 [onC] [] []) (ctrsR_ok [onC] [] rfl rfl rfl rfl) rfl Tryd.func10 (by kernel_rfl) (by kernel_rfl) (by kernel_rfl) rfl (by kernel_rfl) (orN' f l key h1 h2 h3)
  · cases ho⟩
end Go.Proofs.YtfclelafcdcilaaDoor.Dv
