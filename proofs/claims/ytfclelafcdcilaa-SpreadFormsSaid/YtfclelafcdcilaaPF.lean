/- Sorting by the pages. -/
import Derived.Test.YtfclelafcdcilaaPA
import Derived.Test.YtfclelafcdcilaaPB
set_option linter.unusedVariables false
set_option linter.unusedSimpArgs false
namespace Go.Proofs.Ytfclelafcdcilaa.Dv
open Go Go.Proofs
def codsQ : TypeId → Option Codec
  | 4 => some ⟨Bool, blD⟩
  | 3 => some ⟨Int, iD⟩
  | 59 => some ⟨Ky, kyD⟩
  | 39 => some ⟨Rtd, rtD⟩
  | _ => none
def qCfg (l : List Ctr) (h : List (Nat × Hn)) : WCfg := { spec := specOf l, cod := codsQ, H := hints h }
theorem lessN' (a b c d : Int) : (decide (a < c) = true → D.bool true = D.bool (lessK (a, b) (c, d))) ∧ (decide (a < c) = false → (decide (a = c) = true → D.bool (decide (b < d)) = D.bool (lessK (a, b) (c, d))) ∧ (decide (a = c) = false → D.bool false = D.bool (lessK (a, b) (c, d)))) := by
  unfold lessK
  refine ⟨fun h => ?_, fun h => ⟨fun h2 => ?_, fun h2 => ?_⟩⟩
  all_goals simp_all
def lessC' : Ctr := ⟨57, lessS, by
  intro vs o ho hp
  unfold lessS at ho
  split at ho
  · rename_i a b c d; injection ho with ho; subst ho
    exact dataFun0 (C := qCfg [] []) (ctrs_ok [] rfl rfl) rfl Try.func57 (by kernel_rfl) (by kernel_rfl) (by kernel_rfl) (by kernel_rfl) (by kernel_rfl) (lessN' a b c d)
  · cases ho⟩
theorem insK_at {k : Ky} {p q : List Ky} (hs : SrtK (p ++ q)) (hq : ∀ z ∈ q, lessK k z = true) (hp : ∀ z ∈ p, lessK k z = false) : insK k (p ++ q) = p ++ k :: q := by
  induction p with
  | nil =>
    cases q with
    | nil => rfl
    | cons z q => exact if_pos (hq z (List.mem_cons_self ..))
  | cons x p ih =>
    have h1 : insK k (x :: (p ++ q)) = x :: insK k (p ++ q) := if_neg (by rw [hp x (List.mem_cons_self ..)]; decide)
    rw [List.cons_append, h1, ih (List.pairwise_cons.1 hs).2 (fun z hz => hp z (List.mem_cons_of_mem _ hz))]
    rfl
theorem srt_last {k y : Ky} {p q : List Ky} (hs : SrtK (p ++ [y] ++ q)) (hy : lessK k y = false) : ∀ z ∈ p ++ [y], lessK k z = false := by
  intro z hz
  rcases List.mem_append.1 hz with h | h
  · have h1 := (List.pairwise_append.1 (List.pairwise_append.1 hs).1).2.2 z h y (List.mem_singleton.2 rfl)
    exact leK_trans h1 hy
  · rw [List.mem_singleton.1 h]; exact hy
noncomputable def isC : List Ctr := [lessC']
/-- A place is found: ahead of it, the hole, behind it. -/
def inL (f : Bool) (all : List Ky) (i : Nat) (k : Ky) (o : List Ky) : WLoop :=
  { St := List Ky × Ky × List Ky
    O := List Ky
    T := fun s => [(3, .ms 0 0 (o.length + 1) (o.length + 1) false), (5, .ptr 1 0 0), (6, .int .i64 s.1.length), (7, .sl f (all.map kyD)), (8, .int .i64 (all.map kyD).length), (9, .int .i64 i)]
    S := fun s => [some (.row .own 2 ((s.1 ++ s.2.1 :: s.2.2).map kyD)), some (.row .own 2 [kyD k])]
    ok := fun s => s.1 ++ s.2.2 = o ∧ SrtK o ∧ (∀ z ∈ s.2.2, lessK k z = true) ∧ o.length ≤ 1000
    μ := fun s => s.1.length
    m := fun _ => insK k o
    src := [(0, true), (1, true)]
    outs := [{ α := List Ky × Ky × List Ky, is := fun w a => w = a.1 ++ k :: a.2.2 ∧ a.1 ++ a.2.2 = o, ex := .exit 2, src := [(0, true), (1, true)], T := fun a => [(3, .ms 0 0 (o.length + 1) (o.length + 1) false), (5, .ptr 1 0 0), (6, .int .i64 a.1.length), (7, .sl f (all.map kyD)), (8, .int .i64 (all.map kyD).length), (9, .int .i64 i)], S := fun a => [some (.row .own 2 ((a.1 ++ a.2.1 :: a.2.2).map kyD)), some (.row .own 2 [kyD k])] }] }
theorem inR7 (f : Bool) (all : List Ky) (i : Nat) (k : Ky) (o : List Ky) (s : (inL f all i k o).St) (hs : (inL f all i k o).ok s) : Tri Try.prog 0 46 (lp Try.f34 7) (tb ((inL f all i k o).T s)) ((inL f all i k o).S s) ((inL f all i k o).q 0 s) := by
  obtain ⟨p, h, q⟩ := s
  obtain ⟨h1, h2, h3, h4⟩ := hs
  simp only at h1 h3
  rcases List.eq_nil_or_concat p with rfl | ⟨p', y, rfl⟩
  · refine round0 (C := qCfg isC [(21, .f)]) (ctrs_ok (isC) rfl rfl) (by kernel_rfl) (by kernel_rfl) (q := false = false ∧ ∃ (a : List Ky × Ky × List Ky), (insK k o = a.fst ++ k :: a.snd.snd ∧ a.fst ++ a.snd.snd = o) ∧ (D.ms (0 : Nat) (0 : Nat) (o.length + (1 : Nat)) (o.length + (1 : Nat)) false = D.ms (0 : Nat) (0 : Nat) (o.length + (1 : Nat)) (o.length + (1 : Nat)) false ∧ D.ptr (1 : Nat) (0 : Nat) (0 : Nat) = D.ptr (1 : Nat) (0 : Nat) (0 : Nat) ∧ D.int IntKind.i64 (↑a.fst.length : Int) = D.int IntKind.i64 (0 : Int) ∧ D.sl f (List.map kyD all) = D.sl f (List.map kyD all) ∧ D.int IntKind.i64 (↑(List.map kyD all).length : Int) = D.int IntKind.i64 (↑(List.map kyD all).length : Int) ∧ D.int IntKind.i64 (↑i : Int) = D.int IntKind.i64 (↑i : Int)) ∧ (some (Ob.row St.own (2 : Nat) (List.map kyD (a.fst ++ a.snd.fst :: a.snd.snd))) = none ∨ some (Ob.row St.own (2 : Nat) (List.map kyD (a.fst ++ a.snd.fst :: a.snd.snd))) = some (Ob.row St.own (2 : Nat) (List.map kyD (h :: q))) ∧ (List.map kyD (h :: q)).all D.pure = true) ∧ (some (Ob.row St.own (2 : Nat) [D.agg [D.int IntKind.i64 k.fst, D.int IntKind.i64 k.snd]]) = none ∨ some (Ob.row St.own (2 : Nat) [D.agg [D.int IntKind.i64 k.fst, D.int IntKind.i64 k.snd]]) = some (Ob.row St.own (2 : Nat) [D.agg [D.int IntKind.i64 k.fst, D.int IntKind.i64 k.snd]]) ∧ true = true)) (by kernel_rfl) ?_
    simp only [List.nil_append] at h1
    subst h1
    exact ⟨rfl, ([], h, q), ⟨insK_at (p := []) h2 h3 (fun z hz => by cases hz), rfl⟩, ⟨rfl, rfl, rfl, rfl, rfl, rfl⟩, .inr ⟨rfl, pure_kyD _⟩, .inr ⟨rfl, rfl⟩⟩
  · rw [List.concat_eq_append] at *
    refine round0 (C := qCfg isC [(21, .t)]) (ctrs_ok (isC) rfl rfl) (by kernel_rfl) (by kernel_rfl) (q := decide ((0 : Int) < (↑(p' ++ [y]).length : Int)) = true ∧ inK IntKind.i64 ((↑(p' ++ [y]).length : Int) - (1 : Int)) ∧ (0 : Int) ≤ (↑(p' ++ [y]).length : Int) - (1 : Int) ∧ (↑(p' ++ [y]).length : Int) - (1 : Int) < (↑(o.length + (1 : Nat)) : Int) ∧ ∃ (x : Int × Int), (List.map kyD (p' ++ [y] ++ h :: q))[(0 : Nat) + ((↑(p' ++ [y]).length : Int) - (1 : Int)).toNat]? = some (D.agg [D.int IntKind.i64 x.fst, D.int IntKind.i64 x.snd]) ∧ True ∧ (lessK k x = true → inK IntKind.i64 ((↑(p' ++ [y]).length : Int) - (1 : Int)) ∧ (0 : Int) ≤ (↑(p' ++ [y]).length : Int) - (1 : Int) ∧ (↑(p' ++ [y]).length : Int) - (1 : Int) < (↑(o.length + (1 : Nat)) : Int) ∧ ∃ (x : Int × Int), (List.map kyD (p' ++ [y] ++ h :: q))[(0 : Nat) + ((↑(p' ++ [y]).length : Int) - (1 : Int)).toNat]? = some (D.agg [D.int IntKind.i64 x.fst, D.int IntKind.i64 x.snd]) ∧ (0 : Int) ≤ (↑(p' ++ [y]).length : Int) ∧ (↑(p' ++ [y]).length : Int) < (↑(o.length + (1 : Nat)) : Int) ∧ ∃ (x_1 : Int × Int), (List.map kyD (p' ++ [y] ++ h :: q))[(0 : Nat) + (↑(p' ++ [y]).length : Int).toNat]? = some (D.agg [D.int IntKind.i64 x_1.fst, D.int IntKind.i64 x_1.snd]) ∧ inK IntKind.i64 ((↑(p' ++ [y]).length : Int) - (1 : Int)) ∧ ∃ (s' : List Ky × Ky × List Ky), (s'.fst ++ s'.snd.snd = o ∧ List.Pairwise leK o ∧ (∀ (z : Ky), List.Mem z s'.snd.snd → lessK k z = true) ∧ o.length ≤ (1000 : Nat)) ∧ s'.fst.length.succ ≤ (p' ++ [y]).length ∧ insK k o = insK k o ∧ (D.ms (0 : Nat) (0 : Nat) (o.length + (1 : Nat)) (o.length + (1 : Nat)) false = D.ms (0 : Nat) (0 : Nat) (o.length + (1 : Nat)) (o.length + (1 : Nat)) false ∧ D.ptr (1 : Nat) (0 : Nat) (0 : Nat) = D.ptr (1 : Nat) (0 : Nat) (0 : Nat) ∧ D.int IntKind.i64 (↑s'.fst.length : Int) = D.int IntKind.i64 ((↑(p' ++ [y]).length : Int) - (1 : Int)) ∧ D.sl f (List.map kyD all) = D.sl f (List.map kyD all) ∧ D.int IntKind.i64 (↑(List.map kyD all).length : Int) = D.int IntKind.i64 (↑(List.map kyD all).length : Int) ∧ D.int IntKind.i64 (↑i : Int) = D.int IntKind.i64 (↑i : Int)) ∧ (some (Ob.row St.own (2 : Nat) (List.map kyD (s'.fst ++ s'.snd.fst :: s'.snd.snd))) = none ∨ some (Ob.row St.own (2 : Nat) (List.map kyD (s'.fst ++ s'.snd.fst :: s'.snd.snd))) = some (Ob.row St.own (2 : Nat) ((List.map kyD (p' ++ [y] ++ h :: q)).set ((0 : Nat) + (↑(p' ++ [y]).length : Int).toNat) (D.agg [D.int IntKind.i64 x.fst, D.int IntKind.i64 x.snd]))) ∧ ((List.map kyD (p' ++ [y] ++ h :: q)).set ((0 : Nat) + (↑(p' ++ [y]).length : Int).toNat) (D.agg [D.int IntKind.i64 x.fst, D.int IntKind.i64 x.snd])).all D.pure = true) ∧ (some (Ob.row St.own (2 : Nat) [D.agg [D.int IntKind.i64 k.fst, D.int IntKind.i64 k.snd]]) = none ∨ some (Ob.row St.own (2 : Nat) [D.agg [D.int IntKind.i64 k.fst, D.int IntKind.i64 k.snd]]) = some (Ob.row St.own (2 : Nat) [D.agg [D.int IntKind.i64 k.fst, D.int IntKind.i64 k.snd]]) ∧ true = true)) ∧ (lessK k x = false → ∃ (a : List Ky × Ky × List Ky), (insK k o = a.fst ++ k :: a.snd.snd ∧ a.fst ++ a.snd.snd = o) ∧ (D.ms (0 : Nat) (0 : Nat) (o.length + (1 : Nat)) (o.length + (1 : Nat)) false = D.ms (0 : Nat) (0 : Nat) (o.length + (1 : Nat)) (o.length + (1 : Nat)) false ∧ D.ptr (1 : Nat) (0 : Nat) (0 : Nat) = D.ptr (1 : Nat) (0 : Nat) (0 : Nat) ∧ D.int IntKind.i64 (↑a.fst.length : Int) = D.int IntKind.i64 (↑(p' ++ [y]).length : Int) ∧ D.sl f (List.map kyD all) = D.sl f (List.map kyD all) ∧ D.int IntKind.i64 (↑(List.map kyD all).length : Int) = D.int IntKind.i64 (↑(List.map kyD all).length : Int) ∧ D.int IntKind.i64 (↑i : Int) = D.int IntKind.i64 (↑i : Int)) ∧ (some (Ob.row St.own (2 : Nat) (List.map kyD (a.fst ++ a.snd.fst :: a.snd.snd))) = none ∨ some (Ob.row St.own (2 : Nat) (List.map kyD (a.fst ++ a.snd.fst :: a.snd.snd))) = some (Ob.row St.own (2 : Nat) (List.map kyD (p' ++ [y] ++ h :: q))) ∧ (List.map kyD (p' ++ [y] ++ h :: q)).all D.pure = true) ∧ (some (Ob.row St.own (2 : Nat) [D.agg [D.int IntKind.i64 k.fst, D.int IntKind.i64 k.snd]]) = none ∨ some (Ob.row St.own (2 : Nat) [D.agg [D.int IntKind.i64 k.fst, D.int IntKind.i64 k.snd]]) = some (Ob.row St.own (2 : Nat) [D.agg [D.int IntKind.i64 k.fst, D.int IntKind.i64 k.snd]]) ∧ true = true))) (by kernel_rfl) ?_
    have hpl : (p' ++ [y]).length = p'.length + 1 := by simp
    have hol : o.length = p'.length + 1 + q.length := by rw [← h1, List.length_append, hpl]
    have hg : (List.map kyD (p' ++ [y] ++ h :: q))[0 + (((p' ++ [y]).length : Int) - 1).toNat]? = some (kyD y) := by
      rw [hpl, Nat.zero_add, show (((p'.length + 1 : Nat) : Int) - 1).toNat = p'.length by omega, List.append_assoc]
      exact get_mid kyD p' y (h :: q)
    have hg2 : (List.map kyD (p' ++ [y] ++ h :: q))[0 + (((p' ++ [y]).length : Int)).toNat]? = some (kyD h) := by
      rw [Nat.zero_add]; exact get_midI kyD (p' ++ [y]) h q
    have hset : (List.map kyD (p' ++ [y] ++ h :: q)).set (0 + (((p' ++ [y]).length : Int)).toNat) (kyD y) = List.map kyD (p' ++ y :: (y :: q)) := by
      rw [Nat.zero_add, Int.toNat_natCast, List.map_append, List.map_cons, List.set_append_right _ _ (by rw [List.length_map]; exact Nat.le_refl _), List.length_map, Nat.sub_self]
      simp
    have h1' : p' ++ y :: q = o := by rw [← h1]; simp
    refine ⟨decide_eq_true (by omega), ink (by omega), by omega, by omega, y, hg, trivial, fun hl => ⟨ink (by omega), by omega, by omega, y, hg, by omega, by omega, h, hg2, ink (by omega), (p', y, y :: q), ⟨h1', h2, fun z hz => ?_, h4⟩, Nat.le_of_eq hpl.symm, rfl, ⟨rfl, rfl, ?_, rfl, rfl, rfl⟩, .inr ⟨congrArg (fun r => some (Ob.row .own 2 r)) hset.symm, hset ▸ pure_kyD _⟩, .inr ⟨rfl, rfl⟩⟩, fun hl => ⟨(p' ++ [y], h, q), ⟨?_, h1⟩, ⟨rfl, rfl, rfl, rfl, rfl, rfl⟩, .inr ⟨rfl, pure_kyD _⟩, .inr ⟨rfl, rfl⟩⟩⟩
    · rcases List.mem_cons.1 hz with rfl | hz
      · exact hl
      · exact h3 z hz
    · exact congrArg (D.int .i64) (by rw [hpl]; show ((p'.length : Nat) : Int) = _; omega)
    · subst h1
      exact insK_at h2 h3 (srt_last h2 hl)
def srL (f : Bool) (all : List Ky) : WLoop :=
  { St := List Ky × List Ky × List Ky
    O := List Ky
    T := fun s => [(3, outD 0 (s.2.2.map kyD)), (7, .sl f (all.map kyD)), (8, .int .i64 (all.map kyD).length), (9, .int .i64 s.1.length)]
    S := fun s => [outO 2 (s.2.2.map kyD)]
    ok := fun s => s.1 ++ s.2.1 = all ∧ s.2.2 = isortK s.1 ∧ all.length ≤ 500
    μ := fun s => s.2.1.length
    m := fun _ => isortK all
    src := [(0, true)]
    outs := [{ α := Unit, is := fun o _ => o = [], ex := .exit 0, T := fun _ => [(3, .sl true [])] },
      { α := Ky × List Ky, is := fun o a => o = a.1 :: a.2, ex := .exit 0, src := [(0, true)], T := fun a => [(3, outD 0 ((a.1 :: a.2).map kyD))], S := fun a => [outO 2 ((a.1 :: a.2).map kyD)] }] }
noncomputable def srcCfg (f : Bool) (all : List Ky) (i : Nat) (k : Ky) (o : List Ky) : WCfg := { qCfg isC [(10, .t)] with loops := fun j => match j with | 7 => some ((inL f all i k o).row [(3, true), (1, true)]) | _ => none }
theorem sr_fits (f : Bool) (all : List Ky) (i : Nat) (k : Ky) (o : List Ky) : ∀ x ∈ [lp Try.f34 7], LoopFits Try.prog (srcCfg f all i k o) 46 x := by
  intro x hx
  rw [List.mem_singleton.1 hx]
  exact (inL f all i k o).fits 7 [(3, true), (1, true)] (by kernel_rfl) rfl (inR7 f all i k o)
theorem srR (f : Bool) (all : List Ky) (s : (srL f all).St) (hs : (srL f all).ok s) : Tri Try.prog 0 46 (lp Try.f34 3) (tb ((srL f all).T s)) ((srL f all).S s) ((srL f all).q 0 s) := by
  obtain ⟨a, r, u⟩ := s
  obtain ⟨h1, h2, h3⟩ := hs
  simp only at h1 h2
  cases r with
  | nil =>
    rw [List.append_nil] at h1
    subst h1
    cases u with
    | nil =>
      refine round0 (C := { srcCfg f a 0 (0, 0) [] with H := hints [(10, .f)], unr := fun k => if k = 7 then 1 else 0 }) (ctrs_ok (isC) rfl rfl) (by kernel_rfl) (by kernel_rfl) (q := decide ((↑a.length : Int) < (↑(List.map kyD a).length : Int)) = false ∧ ((∃ (a_1 : Unit), isortK a = [] ∧ D.sl true [] = D.sl true []) ∨ ∃ (a_1 : Ky × List Ky), isortK a = a_1.fst :: a_1.snd ∧ D.ms (0 : Nat) (0 : Nat) (List.map kyD (a_1.fst :: a_1.snd)).length (List.map kyD (a_1.fst :: a_1.snd)).length false = D.sl true [] ∧ (some (Ob.row St.own (2 : Nat) (List.map kyD (a_1.fst :: a_1.snd))) = none ∨ some (Ob.row St.own (2 : Nat) (List.map kyD (a_1.fst :: a_1.snd))) = none ∧ False))) (by kernel_rfl) ?_
      exact ⟨decide_eq_false (by rw [List.length_map]; omega), .inl ⟨(), h2.symm, rfl⟩⟩
    | cons y ys =>
      refine round0 (C := { srcCfg f a 0 (0, 0) [] with H := hints [(10, .f)], unr := fun k => if k = 7 then 1 else 0 }) (ctrs_ok (isC) rfl rfl) (by kernel_rfl) (by kernel_rfl) (q := decide ((↑a.length : Int) < (↑(List.map kyD a).length : Int)) = false ∧ ((∃ (a_1 : Unit), isortK a = [] ∧ D.sl true [] = D.any) ∨ ∃ (a_1 : Ky × List Ky), isortK a = a_1.fst :: a_1.snd ∧ D.ms (0 : Nat) (0 : Nat) (List.map kyD (a_1.fst :: a_1.snd)).length (List.map kyD (a_1.fst :: a_1.snd)).length false = D.ms (0 : Nat) (0 : Nat) (List.map kyD (y :: ys)).length (List.map kyD (y :: ys)).length false ∧ (some (Ob.row St.own (2 : Nat) (List.map kyD (a_1.fst :: a_1.snd))) = none ∨ some (Ob.row St.own (2 : Nat) (List.map kyD (a_1.fst :: a_1.snd))) = some (Ob.row St.own (2 : Nat) (List.map kyD (y :: ys))) ∧ (List.map kyD (y :: ys)).all D.pure = true))) (by kernel_rfl) ?_
      exact ⟨decide_eq_false (by rw [List.length_map]; omega), .inr ⟨(y, ys), h2.symm, rfl, .inr ⟨rfl, pure_kyD _⟩⟩⟩
  | cons x r =>
    have hg : (List.map kyD all)[((a.length : Int)).toNat]? = some (kyD x) := by rw [← h1]; exact get_midI kyD a x r
    have hll : ((a.length : Int) < ((List.map kyD all).length : Int)) := by rw [← h1]; simp; omega
    have hix : D.int .i64 ((a ++ [x]).length : Int) = D.int .i64 ((a.length : Int) + 1) := by simp
    have hal : a.length + (r.length + 1) = all.length := by rw [← h1]; simp
    have hin : inK .i64 ((a.length : Int) + 1) := by simp only [inK]; omega
    have hok : (a ++ [x]) ++ r = all := by rw [← h1]; simp
    cases u with
    | nil =>
      refine roundL (C := srcCfg f all a.length x []) (ctrs_ok (isC) rfl rfl) (by kernel_rfl) (l := [lp Try.f34 7]) (by kernel_rfl) ?_ (q := decide ((↑a.length : Int) < (↑(List.map kyD all).length : Int)) = true ∧ ∃ (y : Int × Int), (0 : Int) ≤ (↑a.length : Int) ∧ (List.map kyD all)[(↑a.length : Int).toNat]? = some (D.agg [D.int IntKind.i64 y.fst, D.int IntKind.i64 y.snd]) ∧ ∃ (b : List Ky × Ky × List Ky), (b.fst ++ b.snd.snd = [] ∧ List.Pairwise leK [] ∧ (∀ (z : Ky), List.Mem z b.snd.snd → lessK x z = true) ∧ (0 : Nat) ≤ (1000 : Nat)) ∧ ((D.ms (0 : Nat) (0 : Nat) (1 : Nat) (1 : Nat) false = D.ms (0 : Nat) (0 : Nat) (1 : Nat) (1 : Nat) false ∧ D.ptr (1 : Nat) (0 : Nat) (0 : Nat) = D.ptr (1 : Nat) (0 : Nat) (0 : Nat) ∧ D.int IntKind.i64 (↑b.fst.length : Int) = D.int IntKind.i64 (0 : Int) ∧ D.sl f (List.map kyD all) = D.sl f (List.map kyD all) ∧ D.int IntKind.i64 (↑(List.map kyD all).length : Int) = D.int IntKind.i64 (↑(List.map kyD all).length : Int) ∧ D.int IntKind.i64 (↑a.length : Int) = D.int IntKind.i64 (↑a.length : Int)) ∧ (some (Ob.row St.own (2 : Nat) (List.map kyD (b.fst ++ b.snd.fst :: b.snd.snd))) = none ∨ some (Ob.row St.own (2 : Nat) (List.map kyD (b.fst ++ b.snd.fst :: b.snd.snd))) = some (Ob.row St.own (2 : Nat) [D.agg [D.int IntKind.i64 y.fst, D.int IntKind.i64 y.snd]]) ∧ true = true) ∧ (some (Ob.row St.own (2 : Nat) [D.agg [D.int IntKind.i64 x.fst, D.int IntKind.i64 x.snd]]) = none ∨ some (Ob.row St.own (2 : Nat) [D.agg [D.int IntKind.i64 x.fst, D.int IntKind.i64 x.snd]]) = some (Ob.row St.own (2 : Nat) [D.agg [D.int IntKind.i64 y.fst, D.int IntKind.i64 y.snd]]) ∧ true = true)) ∧ ∀ (a_1 : List Ky × Ky × List Ky), [x] = a_1.fst ++ x :: a_1.snd.snd ∧ a_1.fst ++ a_1.snd.snd = [] → (0 : Int) ≤ (↑a_1.fst.length : Int) ∧ (↑a_1.fst.length : Int) < (1 : Int) ∧ ∃ (x_1 : Int × Int), (List.map kyD (a_1.fst ++ a_1.snd.fst :: a_1.snd.snd))[(0 : Nat) + (↑a_1.fst.length : Int).toNat]? = some (D.agg [D.int IntKind.i64 x_1.fst, D.int IntKind.i64 x_1.snd]) ∧ inK IntKind.i64 ((↑a.length : Int) + (1 : Int)) ∧ ∃ (s' : List Ky × List Ky × List Ky), (s'.fst ++ s'.snd.fst = all ∧ s'.snd.snd = isortK s'.fst ∧ all.length ≤ (500 : Nat)) ∧ s'.snd.fst.length.succ ≤ (x :: r).length ∧ isortK all = isortK all ∧ (outD (0 : Nat) (List.map kyD s'.snd.snd) = D.ms (0 : Nat) (0 : Nat) (1 : Nat) (1 : Nat) false ∧ D.sl f (List.map kyD all) = D.sl f (List.map kyD all) ∧ D.int IntKind.i64 (↑(List.map kyD all).length : Int) = D.int IntKind.i64 (↑(List.map kyD all).length : Int) ∧ D.int IntKind.i64 (↑s'.fst.length : Int) = D.int IntKind.i64 ((↑a.length : Int) + (1 : Int))) ∧ (outO (2 : Nat) (List.map kyD s'.snd.snd) = none ∨ outO (2 : Nat) (List.map kyD s'.snd.snd) = some (Ob.row St.own (2 : Nat) ((List.map kyD (a_1.fst ++ a_1.snd.fst :: a_1.snd.snd)).set ((0 : Nat) + (↑a_1.fst.length : Int).toNat) (D.agg [D.int IntKind.i64 x.fst, D.int IntKind.i64 x.snd]))) ∧ ((List.map kyD (a_1.fst ++ a_1.snd.fst :: a_1.snd.snd)).set ((0 : Nat) + (↑a_1.fst.length : Int).toNat) (D.agg [D.int IntKind.i64 x.fst, D.int IntKind.i64 x.snd])).all D.pure = true)) (by kernel_rfl) ?_
      · exact sr_fits f all a.length x []
      refine ⟨decide_eq_true hll, x, by omega, hg, ([], x, []), ⟨rfl, .nil, (fun z hz => nomatch hz), by omega⟩, ⟨⟨rfl, rfl, rfl, rfl, rfl, rfl⟩, .inr ⟨rfl, rfl⟩, .inr ⟨rfl, rfl⟩⟩, ?_⟩
      rintro ⟨p, h, q⟩ ⟨e1, e2⟩
      dsimp only at e1 e2 ⊢
      have hset : (List.map kyD (p ++ h :: q)).set (0 + ((p.length : Int)).toNat) (kyD x) = List.map kyD (p ++ x :: q) := by
        rw [Nat.zero_add, Int.toNat_natCast, List.map_append, List.map_cons, List.set_append_right _ _ (by rw [List.length_map]; exact Nat.le_refl _), List.length_map, Nat.sub_self]
        simp
      have hpq : p.length + q.length = 0 := by rw [← List.length_append, e2]; rfl
      have hg2 : (List.map kyD (p ++ h :: q))[0 + ((p.length : Int)).toNat]? = some (kyD h) := by rw [Nat.zero_add]; exact get_midI kyD p h q
      have hnl : (List.map kyD (p ++ x :: q)).length = 0 + 1 := by rw [List.length_map, List.length_append, List.length_cons]; omega
      refine ⟨by omega, by omega, h, hg2, hin, (a ++ [x], r, p ++ x :: q), ⟨hok, ?_, h3⟩, Nat.le_refl _, rfl, ⟨outD_of hnl, rfl, rfl, hix⟩, .inr ⟨(outO_of (by simp)).trans (congrArg (fun r => some (Ob.row .own 2 r)) hset.symm), hset ▸ pure_kyD _⟩⟩
      rw [isortK_snoc, ← h2]
      exact e1.symm
    | cons y ys =>
      refine roundL (C := srcCfg f all a.length x (y :: ys)) (ctrs_ok (isC) rfl rfl) (by kernel_rfl) (l := [lp Try.f34 7]) (by kernel_rfl) ?_ (q := decide ((↑a.length : Int) < (↑(List.map kyD all).length : Int)) = true ∧ ∃ (y_1 : Int × Int), (0 : Int) ≤ (↑a.length : Int) ∧ (List.map kyD all)[(↑a.length : Int).toNat]? = some (D.agg [D.int IntKind.i64 y_1.fst, D.int IntKind.i64 y_1.snd]) ∧ (0 : Nat) + (List.map kyD (y :: ys)).length ≤ (List.map kyD (y :: ys)).length ∧ (List.map kyD (y :: ys)).length ≤ (List.map kyD (y :: ys)).length ∧ ((List.map kyD (y :: ys)).length + (1 : Nat)) * (16 : Nat) ≤ (140737488355328 : Nat) ∧ (List.map kyD (y :: ys)).length.succ ≤ (List.map kyD (y :: ys)).length + (1 : Nat) ∧ (0 : Nat) = (0 : Nat) ∧ ∃ (b : List Ky × Ky × List Ky), (b.fst ++ b.snd.snd = y :: ys ∧ List.Pairwise leK (y :: ys) ∧ (∀ (z : Ky), List.Mem z b.snd.snd → lessK x z = true) ∧ (y :: ys).length ≤ (1000 : Nat)) ∧ ((D.ms (0 : Nat) (0 : Nat) ((y :: ys).length + (1 : Nat)) ((y :: ys).length + (1 : Nat)) false = D.ms (0 : Nat) (0 : Nat) ((List.map kyD (y :: ys)).length + (1 : Nat)) ((List.map kyD (y :: ys)).length + (1 : Nat)) false ∧ D.ptr (1 : Nat) (0 : Nat) (0 : Nat) = D.ptr (1 : Nat) (0 : Nat) (0 : Nat) ∧ D.int IntKind.i64 (↑b.fst.length : Int) = D.int IntKind.i64 (↑(List.map kyD (y :: ys)).length : Int) ∧ D.sl f (List.map kyD all) = D.sl f (List.map kyD all) ∧ D.int IntKind.i64 (↑(List.map kyD all).length : Int) = D.int IntKind.i64 (↑(List.map kyD all).length : Int) ∧ D.int IntKind.i64 (↑a.length : Int) = D.int IntKind.i64 (↑a.length : Int)) ∧ (some (Ob.row St.own (2 : Nat) (List.map kyD (b.fst ++ b.snd.fst :: b.snd.snd))) = none ∨ some (Ob.row St.own (2 : Nat) (List.map kyD (b.fst ++ b.snd.fst :: b.snd.snd))) = some (Ob.row St.own (2 : Nat) (List.take (List.map kyD (y :: ys)).length (List.map kyD (y :: ys)) ++ [D.agg [D.int IntKind.i64 y_1.fst, D.int IntKind.i64 y_1.snd]])) ∧ (List.take (List.map kyD (y :: ys)).length (List.map kyD (y :: ys)) ++ [D.agg [D.int IntKind.i64 y_1.fst, D.int IntKind.i64 y_1.snd]]).all D.pure = true) ∧ (some (Ob.row St.own (2 : Nat) [D.agg [D.int IntKind.i64 x.fst, D.int IntKind.i64 x.snd]]) = none ∨ some (Ob.row St.own (2 : Nat) [D.agg [D.int IntKind.i64 x.fst, D.int IntKind.i64 x.snd]]) = some (Ob.row St.own (2 : Nat) [D.agg [D.int IntKind.i64 y_1.fst, D.int IntKind.i64 y_1.snd]]) ∧ true = true)) ∧ ∀ (a_1 : List Ky × Ky × List Ky), insK x (y :: ys) = a_1.fst ++ x :: a_1.snd.snd ∧ a_1.fst ++ a_1.snd.snd = y :: ys → (0 : Int) ≤ (↑a_1.fst.length : Int) ∧ (↑a_1.fst.length : Int) < (↑((y :: ys).length + (1 : Nat)) : Int) ∧ ∃ (x_1 : Int × Int), (List.map kyD (a_1.fst ++ a_1.snd.fst :: a_1.snd.snd))[(0 : Nat) + (↑a_1.fst.length : Int).toNat]? = some (D.agg [D.int IntKind.i64 x_1.fst, D.int IntKind.i64 x_1.snd]) ∧ inK IntKind.i64 ((↑a.length : Int) + (1 : Int)) ∧ ∃ (s' : List Ky × List Ky × List Ky), (s'.fst ++ s'.snd.fst = all ∧ s'.snd.snd = isortK s'.fst ∧ all.length ≤ (500 : Nat)) ∧ s'.snd.fst.length.succ ≤ (x :: r).length ∧ isortK all = isortK all ∧ (outD (0 : Nat) (List.map kyD s'.snd.snd) = D.ms (0 : Nat) (0 : Nat) ((y :: ys).length + (1 : Nat)) ((y :: ys).length + (1 : Nat)) false ∧ D.sl f (List.map kyD all) = D.sl f (List.map kyD all) ∧ D.int IntKind.i64 (↑(List.map kyD all).length : Int) = D.int IntKind.i64 (↑(List.map kyD all).length : Int) ∧ D.int IntKind.i64 (↑s'.fst.length : Int) = D.int IntKind.i64 ((↑a.length : Int) + (1 : Int))) ∧ (outO (2 : Nat) (List.map kyD s'.snd.snd) = none ∨ outO (2 : Nat) (List.map kyD s'.snd.snd) = some (Ob.row St.own (2 : Nat) ((List.map kyD (a_1.fst ++ a_1.snd.fst :: a_1.snd.snd)).set ((0 : Nat) + (↑a_1.fst.length : Int).toNat) (D.agg [D.int IntKind.i64 x.fst, D.int IntKind.i64 x.snd]))) ∧ ((List.map kyD (a_1.fst ++ a_1.snd.fst :: a_1.snd.snd)).set ((0 : Nat) + (↑a_1.fst.length : Int).toNat) (D.agg [D.int IntKind.i64 x.fst, D.int IntKind.i64 x.snd])).all D.pure = true)) (by kernel_rfl) ?_
      · exact sr_fits f all a.length x (y :: ys)
      have hyl : (y :: ys).length ≤ 500 := by rw [h2, (isortK_perm a).length_eq]; omega
      have hyl2 : (List.map kyD (y :: ys)).length = (y :: ys).length := List.length_map ..
      have hy : (List.map kyD (y :: ys)).length ≤ 500 := by omega
      have ht : List.take (List.map kyD (y :: ys)).length (List.map kyD (y :: ys)) ++ [kyD x] = List.map kyD (y :: ys ++ x :: []) := by rw [List.take_length, List.map_append]; rfl
      refine ⟨decide_eq_true hll, x, by omega, hg, by omega, Nat.le_refl _, by omega, Nat.le_refl _, rfl, (y :: ys, x, []), ⟨by simp, h2 ▸ isortK_srt a, fun z hz => (by cases hz), by omega⟩, ⟨⟨by rw [hyl2], rfl, by rw [hyl2], rfl, rfl, rfl⟩, .inr ⟨congrArg (fun r => some (Ob.row .own 2 r)) ht.symm, ht ▸ pure_kyD _⟩, .inr ⟨rfl, rfl⟩⟩, ?_⟩
      rintro ⟨p, h, q⟩ ⟨e1, e2⟩
      dsimp only at e1 e2 ⊢
      have hset : (List.map kyD (p ++ h :: q)).set (0 + ((p.length : Int)).toNat) (kyD x) = List.map kyD (p ++ x :: q) := by
        rw [Nat.zero_add, Int.toNat_natCast, List.map_append, List.map_cons, List.set_append_right _ _ (by rw [List.length_map]; exact Nat.le_refl _), List.length_map, Nat.sub_self]
        simp
      have hpq : p.length + q.length = (y :: ys).length := by rw [← List.length_append, e2]
      have hg2 : (List.map kyD (p ++ h :: q))[0 + ((p.length : Int)).toNat]? = some (kyD h) := by rw [Nat.zero_add]; exact get_midI kyD p h q
      have hnl : (List.map kyD (p ++ x :: q)).length = (y :: ys).length + 1 := by rw [List.length_map, List.length_append, List.length_cons]; omega
      refine ⟨by omega, by omega, h, hg2, hin, (a ++ [x], r, p ++ x :: q), ⟨hok, ?_, h3⟩, Nat.le_refl _, rfl, ⟨outD_of hnl, rfl, rfl, hix⟩, .inr ⟨(outO_of (by simp)).trans (congrArg (fun r => some (Ob.row .own 2 r)) hset.symm), hset ▸ pure_kyD _⟩⟩
      rw [isortK_snoc, ← h2]
      exact e1.symm
noncomputable def isCfg (f : Bool) (l : List Ky) : WCfg := { qCfg isC [] with loops := fun k => match k with | 3 => some ((srL f l).row [(0, true)]) | _ => none }
theorem isN (f : Bool) (l : List Ky) (h : l.length ≤ 500) : ∃ (b : List Ky × List Ky × List Ky), (b.fst ++ b.snd.fst = l ∧ b.snd.snd = isortK b.fst ∧ l.length ≤ (500 : Nat)) ∧ ((outD (0 : Nat) (List.map kyD b.snd.snd) = D.sl true [] ∧ D.sl f (List.map kyD l) = D.sl f (List.map kyD l) ∧ D.int IntKind.i64 (↑(List.map kyD l).length : Int) = D.int IntKind.i64 (↑(List.map kyD l).length : Int) ∧ D.int IntKind.i64 (↑b.fst.length : Int) = D.int IntKind.i64 (0 : Int)) ∧ (outO (2 : Nat) (List.map kyD b.snd.snd) = none ∨ outO (2 : Nat) (List.map kyD b.snd.snd) = none ∧ False)) ∧ (∀ (a : Unit), isortK l = [] → D.sl true [] = D.sl (isortK l).isEmpty (List.map kyD (isortK l))) ∧ ∀ (a : Ky × List Ky), isortK l = a.fst :: a.snd → (0 : Nat) + (List.map kyD (a.fst :: a.snd)).length ≤ (List.map kyD (a.fst :: a.snd)).length ∧ (List.take (List.map kyD (a.fst :: a.snd)).length (List.drop (0 : Nat) (List.map kyD (a.fst :: a.snd)))).all D.pure = true ∧ D.sl false (List.take (List.map kyD (a.fst :: a.snd)).length (List.drop (0 : Nat) (List.map kyD (a.fst :: a.snd)))) = D.sl (isortK l).isEmpty (List.map kyD (isortK l)) := by
  refine ⟨([], l, []), ⟨rfl, rfl, h⟩, ⟨⟨rfl, rfl, rfl, rfl⟩, .inl rfl⟩, fun _ h => by rw [h]; rfl, fun a h => ?_⟩
  rw [h, List.drop_zero, List.take_length]
  exact ⟨by omega, pure_kyD _, rfl⟩
def isS (vs : List D) : Option DOut := match vs with | [.sl f xs] => some ⟨∃ l : List Ky, xs = l.map kyD ∧ l.length ≤ 500, .sl (isortK (xs.map dKy)).isEmpty ((isortK (xs.map dKy)).map kyD)⟩ | _ => none
/-- triageref1.Sort. -/
def isCtr : Ctr := ⟨34, isS, by
  intro vs o ho hp
  unfold isS at ho
  split at ho
  · rename_i f xs
    injection ho with ho; subst ho
    obtain ⟨l, rfl, h⟩ := hp
    simp only [map_dKy]
    refine dataFunL (C := isCfg f l) (ctrs_ok isC rfl rfl) rfl Try.func34 (by kernel_rfl) (l := [lp Try.f34 3]) (by kernel_rfl) ?_ (by kernel_rfl) (by kernel_rfl) (by kernel_rfl) (isN f l h)
    intro x hx
    rw [List.mem_singleton.1 hx]
    exact (srL f l).fits 3 [(0, true)] (by kernel_rfl) rfl (srR f l)
  · cases ho⟩
end Go.Proofs.Ytfclelafcdcilaa.Dv
