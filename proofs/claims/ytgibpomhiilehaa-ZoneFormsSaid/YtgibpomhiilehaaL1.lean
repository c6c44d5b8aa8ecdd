/- Whom a draw falls to. -/
import Derived.Test.YtgibpomhiilehaaA5
import Derived.Test.YtgibpomhiilehaaG2
set_option linter.unusedVariables false
set_option linter.unusedSimpArgs false
namespace Go.Proofs.Ytgibpomhiilehaa.Dv
open Go Go.Proofs
abbrev Shr := Int × Int
def shD (p : Shr) : D := .agg [.int .i64 p.1, .int .i64 p.2]
def dShr : D → Shr
  | .agg [.int _ a, .int _ b] => (a, b)
  | _ => (0, 0)
theorem map_dShr (l : List Shr) : (l.map shD).map dShr = l := by rw [List.map_map]; exact (List.map_congr_left fun x _ => rfl).trans (List.map_id l)
def codsL : TypeId → Option Codec
  | 65 => some ⟨Shr, shD⟩
  | 3 => some ⟨Int, iD⟩
  | _ => none
def lCfg (l : List Ctr) (h : List (Nat × Hn)) : WCfg := { spec := specOf l, cod := codsL, H := hints h }
def prts (l : List Shr) : List Int := l.map (·.2)
def chA (f : Bool) (d : Int) (all : List Shr) : WLoop :=
  { St := List Shr × List Shr
    O := List Int
    T := fun s => [(0, .sl f (all.map shD)), (1, .int .i64 d), (6, outD 0 ((prts s.1).map iD)), (13, .sl f (all.map shD)), (14, .int .i64 (all.map shD).length), (15, .int .i64 s.1.length)]
    S := fun s => [outO 1 ((prts s.1).map iD)]
    ok := fun s => s.1 ++ s.2 = all ∧ all.length ≤ 60
    μ := fun s => s.2.length
    m := fun _ => prts all
    src := [(3, true)]
    outs := [{ α := Unit, is := fun o _ => o = [], ex := .exit 0, T := fun _ => [(0, .sl f (all.map shD)), (1, .int .i64 d), (6, .sl true [])] },
      { α := Int × List Int, is := fun o a => o = a.1 :: a.2, ex := .exit 0, src := [(0, true)], T := fun a => [(0, .sl f (all.map shD)), (1, .int .i64 d), (6, outD 0 ((a.1 :: a.2).map iD))], S := fun a => [outO 1 ((a.1 :: a.2).map iD)] }] }
theorem chAR (f : Bool) (d : Int) (all : List Shr) (s : (chA f d all).St) (hs : (chA f d all).ok s) : Tri Try.prog 0 49 (lp Try.f63 3) (tb ((chA f d all).T s)) ((chA f d all).S s) ((chA f d all).q 0 s) := by
  obtain ⟨a, r⟩ := s
  obtain ⟨h1, h2⟩ := hs
  simp only at h1
  cases r with
  | nil =>
    cases a with
    | nil =>
      refine round0 (C := lCfg [] [(16, .f)]) (ctrs_ok ([]) rfl rfl) (by kernel_rfl) (by kernel_rfl) (q := decide ((0 : Int) < (↑(List.map shD all).length : Int)) = false ∧ ((∃ (a : Unit), prts all = [] ∧ D.sl f (List.map shD all) = D.sl f (List.map shD all) ∧ D.int IntKind.i64 d = D.int IntKind.i64 d ∧ D.sl true [] = D.sl true []) ∨ ∃ (a : Int × List Int), prts all = a.fst :: a.snd ∧ (D.sl f (List.map shD all) = D.sl f (List.map shD all) ∧ D.int IntKind.i64 d = D.int IntKind.i64 d ∧ D.ms (0 : Nat) (0 : Nat) (List.map iD (a.fst :: a.snd)).length (List.map iD (a.fst :: a.snd)).length false = D.sl true []) ∧ (some (Ob.row St.own (1 : Nat) (List.map iD (a.fst :: a.snd))) = none ∨ some (Ob.row St.own (1 : Nat) (List.map iD (a.fst :: a.snd))) = none ∧ False))) (by kernel_rfl) ?_
      subst h1
      exact ⟨by simp, .inl ⟨(), rfl, ⟨rfl, rfl, rfl⟩⟩⟩
    | cons y ys =>
      refine round0 (C := lCfg [] [(16, .f)]) (ctrs_ok ([]) rfl rfl) (by kernel_rfl) (by kernel_rfl) (q := decide ((↑(y :: ys).length : Int) < (↑(List.map shD all).length : Int)) = false ∧ ((∃ (a : Unit), prts all = [] ∧ D.sl f (List.map shD all) = D.sl f (List.map shD all) ∧ D.int IntKind.i64 d = D.int IntKind.i64 d ∧ D.sl true [] = D.any) ∨ ∃ (a : Int × List Int), prts all = a.fst :: a.snd ∧ (D.sl f (List.map shD all) = D.sl f (List.map shD all) ∧ D.int IntKind.i64 d = D.int IntKind.i64 d ∧ D.ms (0 : Nat) (0 : Nat) (List.map iD (a.fst :: a.snd)).length (List.map iD (a.fst :: a.snd)).length false = D.ms (0 : Nat) (0 : Nat) (List.map iD (prts (y :: ys))).length (List.map iD (prts (y :: ys))).length false) ∧ (some (Ob.row St.own (1 : Nat) (List.map iD (a.fst :: a.snd))) = none ∨ some (Ob.row St.own (1 : Nat) (List.map iD (a.fst :: a.snd))) = some (Ob.row St.own (1 : Nat) (List.map iD (prts (y :: ys)))) ∧ (List.map iD (prts (y :: ys))).all D.pure = true))) (by kernel_rfl) ?_
      subst h1
      exact ⟨by simp, .inr ⟨(y.2, prts ys), by simp [prts], ⟨(by trivial), by simp [prts]⟩, .inr ⟨by simp [prts], pure_iD _⟩⟩⟩
  | cons p r =>
    cases a with
    | nil =>
      refine round0 (C := lCfg [] [(16, .t)]) (ctrs_ok ([]) rfl rfl) (by kernel_rfl) (by kernel_rfl) (q := decide ((0 : Int) < (↑(List.map shD all).length : Int)) = true ∧ ∃ (y : Int × Int), (0 : Int) ≤ (0 : Int) ∧ (List.map shD all)[(0 : Nat)]? = some (D.agg [D.int IntKind.i64 y.fst, D.int IntKind.i64 y.snd]) ∧ inK IntKind.i64 ((0 : Int) + (1 : Int)) ∧ ∃ (s' : List Shr × List Shr), (s'.fst ++ s'.snd = all ∧ all.length ≤ (60 : Nat)) ∧ s'.snd.length.succ ≤ (p :: r).length ∧ prts all = prts all ∧ (D.sl f (List.map shD all) = D.sl f (List.map shD all) ∧ D.int IntKind.i64 d = D.int IntKind.i64 d ∧ outD (0 : Nat) (List.map iD (prts s'.fst)) = D.ms (0 : Nat) (0 : Nat) (1 : Nat) (1 : Nat) false ∧ D.sl f (List.map shD all) = D.sl f (List.map shD all) ∧ D.int IntKind.i64 (↑(List.map shD all).length : Int) = D.int IntKind.i64 (↑(List.map shD all).length : Int) ∧ D.int IntKind.i64 (↑s'.fst.length : Int) = D.int IntKind.i64 ((0 : Int) + (1 : Int))) ∧ (outO (1 : Nat) (List.map iD (prts s'.fst)) = none ∨ outO (1 : Nat) (List.map iD (prts s'.fst)) = some (Ob.row St.own (1 : Nat) [D.int IntKind.i64 y.snd]) ∧ true = true)) (by kernel_rfl) ?_
      subst h1
      refine ⟨by simp, p, by omega, rfl, by simp only [inK]; omega, ([p], r), ?_⟩
      repeat' apply And.intro
      all_goals first
        | rfl
        | exact h2
        | exact Nat.le_refl _
        | exact .inr ⟨rfl, rfl⟩
    | cons y ys =>
      refine round0 (C := lCfg [] [(16, .t)]) (ctrs_ok ([]) rfl rfl) (by kernel_rfl) (by kernel_rfl) (q := decide ((↑(y :: ys).length : Int) < (↑(List.map shD all).length : Int)) = true ∧ ∃ (y_1 : Int × Int), (0 : Int) ≤ (↑(y :: ys).length : Int) ∧ (List.map shD all)[(↑(y :: ys).length : Int).toNat]? = some (D.agg [D.int IntKind.i64 y_1.fst, D.int IntKind.i64 y_1.snd]) ∧ (0 : Nat) + (List.map iD (prts (y :: ys))).length ≤ (List.map iD (prts (y :: ys))).length ∧ (List.map iD (prts (y :: ys))).length ≤ (List.map iD (prts (y :: ys))).length ∧ ((List.map iD (prts (y :: ys))).length + (1 : Nat)) * (8 : Nat) ≤ (140737488355328 : Nat) ∧ (List.map iD (prts (y :: ys))).length.succ ≤ (List.map iD (prts (y :: ys))).length + (1 : Nat) ∧ (0 : Nat) = (0 : Nat) ∧ inK IntKind.i64 ((↑(y :: ys).length : Int) + (1 : Int)) ∧ ∃ (s' : List Shr × List Shr), (s'.fst ++ s'.snd = all ∧ all.length ≤ (60 : Nat)) ∧ s'.snd.length.succ ≤ (p :: r).length ∧ prts all = prts all ∧ (D.sl f (List.map shD all) = D.sl f (List.map shD all) ∧ D.int IntKind.i64 d = D.int IntKind.i64 d ∧ outD (0 : Nat) (List.map iD (prts s'.fst)) = D.ms (0 : Nat) (0 : Nat) ((List.map iD (prts (y :: ys))).length + (1 : Nat)) ((List.map iD (prts (y :: ys))).length + (1 : Nat)) false ∧ D.sl f (List.map shD all) = D.sl f (List.map shD all) ∧ D.int IntKind.i64 (↑(List.map shD all).length : Int) = D.int IntKind.i64 (↑(List.map shD all).length : Int) ∧ D.int IntKind.i64 (↑s'.fst.length : Int) = D.int IntKind.i64 ((↑(y :: ys).length : Int) + (1 : Int))) ∧ (outO (1 : Nat) (List.map iD (prts s'.fst)) = none ∨ outO (1 : Nat) (List.map iD (prts s'.fst)) = some (Ob.row St.own (1 : Nat) (List.take (List.map iD (prts (y :: ys))).length (List.map iD (prts (y :: ys))) ++ [D.int IntKind.i64 y_1.snd])) ∧ (List.take (List.map iD (prts (y :: ys))).length (List.map iD (prts (y :: ys))) ++ [D.int IntKind.i64 y_1.snd]).all D.pure = true)) (by kernel_rfl) ?_
      subst h1
      have hl : (y :: ys).length + (r.length + 1) ≤ 60 := by simp at h2 ⊢; omega
      have hp : (List.map iD (prts (y :: ys))).length = (y :: ys).length := by simp [prts]
      have ho1 : outD 0 (List.map iD (prts (y :: ys ++ [p]))) = .ms 0 0 ((List.map iD (prts (y :: ys))).length + 1) ((List.map iD (prts (y :: ys))).length + 1) false := by
        have : List.map iD (prts (y :: ys ++ [p])) = List.map iD (prts (y :: ys)) ++ [iD p.2] := by simp [prts]
        rw [this, outD_snoc]
      have ho2 : outO 1 (List.map iD (prts (y :: ys ++ [p]))) = some (.row .own 1 (List.take (List.map iD (prts (y :: ys))).length (List.map iD (prts (y :: ys))) ++ [.int .i64 p.2])) := by
        have : List.map iD (prts (y :: ys ++ [p])) = List.map iD (prts (y :: ys)) ++ [iD p.2] := by simp [prts]
        rw [this, outO_snoc, List.take_length]; rfl
      have hq : (List.take (List.map iD (prts (y :: ys))).length (List.map iD (prts (y :: ys))) ++ [D.int .i64 p.2]).all D.pure = true := by
        rw [List.take_length, List.all_append, pure_iD]; rfl
      refine ⟨by simp; omega, p, by omega, get_midI shD _ _ _, by omega, by omega, by omega, by omega, (by trivial), by simp only [inK]; omega, (y :: ys ++ [p], r), ?_⟩
      repeat' apply And.intro
      all_goals first
        | rfl
        | exact h2
        | exact Nat.le_refl _
        | exact ho1
        | exact .inr ⟨ho2, hq⟩
        | (simp; done)
/-- The first whose share, with those ahead of it, is beyond x. -/
def pickR (x : Int) : List Int → List Shr → Int × Bool
  | _, [] => (0, false)
  | g, p :: r => if x < sumV (g ++ [p.2]) then (p.1, true) else pickR x (g ++ [p.2]) r
def chooseM (l : List Shr) (d : Int) : Int × Bool := if sumV (prts l) = 0 then (0, false) else pickR (drI d (sumV (prts l))) [] l
def chB (f : Bool) (x : Int) (all : List Shr) : WLoop :=
  { St := List Shr × List Shr
    O := Int × Bool
    T := fun s => [(6, .ms 0 0 (prts all).length (prts all).length false), (10, .int .i64 x), (32, .sl f (all.map shD)), (33, .int .i64 (all.map shD).length), (34, .int .i64 s.1.length)]
    S := fun s => [some (.row .own 1 ((prts all).map iD))]
    ok := fun s => s.1 ++ s.2 = all ∧ all.length ≤ 60
    μ := fun s => s.2.length
    m := fun s => pickR x (prts s.1) s.2
    src := [(0, true)]
    outs := [{ α := Unit, is := fun o _ => o = (0, false), ex := .exit 2, T := fun _ => [] },
      { α := Int, is := fun o a => o = (a, true), ex := .ret, T := fun a => [(4, .int .i64 a), (5, .bool true)] }] }
theorem chBR (f : Bool) (x : Int) (all : List Shr) (s : (chB f x all).St) (hs : (chB f x all).ok s) : Tri Try.prog 0 49 (lp Try.f63 12) (tb ((chB f x all).T s)) ((chB f x all).S s) ((chB f x all).q 0 s) := by
  obtain ⟨a, r⟩ := s
  obtain ⟨h1, h2⟩ := hs
  simp only at h1
  cases r with
  | nil =>
    refine round0 (C := lCfg [sumC] [(35, .f)]) (ctrs_ok ([sumC]) rfl rfl) (by kernel_rfl) (by kernel_rfl) (q := decide ((↑a.length : Int) < (↑(List.map shD all).length : Int)) = false ∧ ∃ (a : Unit), ((0 : Int), false) = ((0 : Int), false) ∧ True) (by kernel_rfl) ?_
    subst h1
    exact ⟨by simp, (), rfl, (by trivial)⟩
  | cons p r =>
    refine round0 (C := lCfg [sumC] [(35, .t)]) (ctrs_ok ([sumC]) rfl rfl) (by kernel_rfl) (by kernel_rfl) (q := decide ((↑a.length : Int) < (↑(List.map shD all).length : Int)) = true ∧ ∃ (y : Int × Int), (0 : Int) ≤ (↑a.length : Int) ∧ (List.map shD all)[(↑a.length : Int).toNat]? = some (D.agg [D.int IntKind.i64 y.fst, D.int IntKind.i64 y.snd]) ∧ inK IntKind.i64 ((↑a.length : Int) + (1 : Int)) ∧ (0 : Int) ≤ (↑a.length : Int) + (1 : Int) ∧ (0 : Nat) ≤ ((↑a.length : Int) + (1 : Int)).toNat ∧ ((↑a.length : Int) + (1 : Int)).toNat ≤ (prts all).length ∧ (0 : Nat) + (((↑a.length : Int) + (1 : Int)).toNat - (0 : Nat)) ≤ (List.map iD (prts all)).length ∧ (List.take (((↑a.length : Int) + (1 : Int)).toNat - (0 : Nat)) (List.drop (0 : Nat) (List.map iD (prts all)))).all D.pure = true ∧ (List.take (((↑a.length : Int) + (1 : Int)).toNat - (0 : Nat)) (List.drop (0 : Nat) (List.map iD (prts all))) = List.map iD (List.map dI (List.take (((↑a.length : Int) + (1 : Int)).toNat - (0 : Nat)) (List.drop (0 : Nat) (List.map iD (prts all))))) ∧ (List.take (((↑a.length : Int) + (1 : Int)).toNat - (0 : Nat)) (List.drop (0 : Nat) (List.map iD (prts all)))).length ≤ (9223372036854775807 : Nat)) ∧ (decide (x < sumV (List.map dI (List.take (((↑a.length : Int) + (1 : Int)).toNat - (0 : Nat)) (List.drop (0 : Nat) (List.map iD (prts all)))))) = true → ∃ (a_2 : Int), pickR x (prts a) (p :: r) = (a_2, true) ∧ D.int IntKind.i64 a_2 = D.int IntKind.i64 y.fst ∧ D.bool true = D.bool true) ∧ (decide (x < sumV (List.map dI (List.take (((↑a.length : Int) + (1 : Int)).toNat - (0 : Nat)) (List.drop (0 : Nat) (List.map iD (prts all)))))) = false → inK IntKind.i64 ((↑a.length : Int) + (1 : Int)) ∧ ∃ (s' : List Shr × List Shr), (s'.fst ++ s'.snd = all ∧ all.length ≤ (60 : Nat)) ∧ s'.snd.length.succ ≤ (p :: r).length ∧ pickR x (prts s'.fst) s'.snd = pickR x (prts a) (p :: r) ∧ (D.ms (0 : Nat) (0 : Nat) (prts all).length (prts all).length false = D.ms (0 : Nat) (0 : Nat) (prts all).length (prts all).length false ∧ D.int IntKind.i64 x = D.int IntKind.i64 x ∧ D.sl f (List.map shD all) = D.sl f (List.map shD all) ∧ D.int IntKind.i64 (↑(List.map shD all).length : Int) = D.int IntKind.i64 (↑(List.map shD all).length : Int) ∧ D.int IntKind.i64 (↑s'.fst.length : Int) = D.int IntKind.i64 ((↑a.length : Int) + (1 : Int))) ∧ (some (Ob.row St.own (1 : Nat) (List.map iD (prts all))) = none ∨ some (Ob.row St.own (1 : Nat) (List.map iD (prts all))) = some (Ob.row St.own (1 : Nat) (List.map iD (prts all))) ∧ (List.map iD (prts all)).all D.pure = true))) (by kernel_rfl) ?_
    subst h1
    have hl : a.length + (r.length + 1) ≤ 60 := by simpa using h2
    have hp : (prts (a ++ p :: r)).length = a.length + (r.length + 1) := by simp [prts]
    have e1 : ((a.length : Int) + 1).toNat - 0 = a.length + 1 := by omega
    have e2 : List.take (a.length + 1) (List.drop 0 (List.map iD (prts (a ++ p :: r)))) = List.map iD (prts a ++ [p.2]) := by
      rw [List.drop_zero, ← List.map_take]
      unfold prts
      rw [← List.map_take, List.take_append, List.take_of_length_le (by omega), Nat.add_sub_cancel_left]
      simp
    rw [e1, e2, map_dI]
    have e3 : pickR x (prts a) (p :: r) = if x < sumV (prts a ++ [p.2]) then (p.1, true) else pickR x (prts a ++ [p.2]) r := rfl
    rw [e3]
    have e4 : prts (a ++ [p]) = prts a ++ [p.2] := by simp [prts]
    refine ⟨by simp; omega, p, by omega, get_midI shD a p r, by simp only [inK]; omega, by omega, by omega, by omega, by rw [List.length_map]; omega, pure_iD _, ⟨rfl, by rw [List.length_map, List.length_append]; simp [prts]; omega⟩, fun h => ?_, fun h => ?_⟩
    · refine ⟨p.1, by rw [if_pos (of_decide_eq_true h)], ?_⟩
      repeat' apply And.intro
      all_goals rfl
    · refine ⟨by simp only [inK]; omega, (a ++ [p], r), ?_⟩
      repeat' apply And.intro
      all_goals first
        | rfl
        | exact h2
        | exact Nat.le_refl _
        | exact .inr ⟨rfl, pure_iD _⟩
        | (rw [if_neg (of_decide_eq_false h), e4]; done)
        | (simp; done)
noncomputable def chC : List Ctr := [sumC, drC]
noncomputable def chCfg (f : Bool) (d : Int) (l : List Shr) : WCfg := { lCfg chC [] with loops := fun k => match k with | 3 => some ((chA f d l).row [(0, true)]) | 12 => some ((chB f (drI d (sumV (prts l))) l).row [(0, true)]) | _ => none }
theorem chN (f : Bool) (d : Int) (l : List Shr) (hd : rI d) (h : l.length ≤ 60) : ∃ (b : List Shr × List Shr), (b.fst ++ b.snd = l ∧ l.length ≤ (60 : Nat)) ∧ ((D.sl f (List.map shD l) = D.sl f (List.map shD l) ∧ D.int IntKind.i64 d = D.int IntKind.i64 d ∧ outD (0 : Nat) (List.map iD (prts b.fst)) = D.sl true [] ∧ D.sl f (List.map shD l) = D.sl f (List.map shD l) ∧ D.int IntKind.i64 (↑(List.map shD l).length : Int) = D.int IntKind.i64 (↑(List.map shD l).length : Int) ∧ D.int IntKind.i64 (↑b.fst.length : Int) = D.int IntKind.i64 (0 : Int)) ∧ (outO (1 : Nat) (List.map iD (prts b.fst)) = none ∨ outO (1 : Nat) (List.map iD (prts b.fst)) = none ∧ False)) ∧ (∀ (a : Unit), prts l = [] → (nilT D = [] ∧ (0 : Nat) ≤ (9223372036854775807 : Nat)) ∧ (true = true → D.tup [D.int IntKind.i64 (0 : Int), D.bool false] = D.tup [D.int IntKind.i64 (chooseM l d).fst, D.bool (chooseM l d).snd]) ∧ (true = false → (rI d ∧ rI (sumV [])) ∧ ∃ (b : List Shr × List Shr), (b.fst ++ b.snd = l ∧ l.length ≤ (60 : Nat)) ∧ ((D.ms (0 : Nat) (0 : Nat) (prts l).length (prts l).length false = D.sl true [] ∧ D.int IntKind.i64 (drI d (sumV (prts l))) = D.int IntKind.i64 (drI d (sumV [])) ∧ D.sl f (List.map shD l) = D.sl f (List.map shD l) ∧ D.int IntKind.i64 (↑(List.map shD l).length : Int) = D.int IntKind.i64 (↑(List.map shD l).length : Int) ∧ D.int IntKind.i64 (↑b.fst.length : Int) = D.int IntKind.i64 (0 : Int)) ∧ (some (Ob.row St.own (1 : Nat) (List.map iD (prts l))) = none ∨ some (Ob.row St.own (1 : Nat) (List.map iD (prts l))) = none ∧ False)) ∧ (∀ (a : Unit), pickR (drI d (sumV (prts l))) (prts b.fst) b.snd = ((0 : Int), false) → D.tup [D.int IntKind.i64 (0 : Int), D.bool false] = D.tup [D.int IntKind.i64 (chooseM l d).fst, D.bool (chooseM l d).snd]) ∧ ∀ (a : Int), pickR (drI d (sumV (prts l))) (prts b.fst) b.snd = (a, true) → D.tup [D.int IntKind.i64 a, D.bool true] = D.tup [D.int IntKind.i64 (chooseM l d).fst, D.bool (chooseM l d).snd])) ∧ ∀ (a : Int × List Int), prts l = a.fst :: a.snd → (0 : Nat) + (List.map iD (a.fst :: a.snd)).length ≤ (List.map iD (a.fst :: a.snd)).length ∧ (List.take (List.map iD (a.fst :: a.snd)).length (List.drop (0 : Nat) (List.map iD (a.fst :: a.snd)))).all D.pure = true ∧ (List.take (List.map iD (a.fst :: a.snd)).length (List.drop (0 : Nat) (List.map iD (a.fst :: a.snd))) = List.map iD (List.map dI (List.take (List.map iD (a.fst :: a.snd)).length (List.drop (0 : Nat) (List.map iD (a.fst :: a.snd))))) ∧ (List.take (List.map iD (a.fst :: a.snd)).length (List.drop (0 : Nat) (List.map iD (a.fst :: a.snd)))).length ≤ (9223372036854775807 : Nat)) ∧ (decide (sumV (List.map dI (List.take (List.map iD (a.fst :: a.snd)).length (List.drop (0 : Nat) (List.map iD (a.fst :: a.snd))))) = (0 : Int)) = true → D.tup [D.int IntKind.i64 (0 : Int), D.bool false] = D.tup [D.int IntKind.i64 (chooseM l d).fst, D.bool (chooseM l d).snd]) ∧ (decide (sumV (List.map dI (List.take (List.map iD (a.fst :: a.snd)).length (List.drop (0 : Nat) (List.map iD (a.fst :: a.snd))))) = (0 : Int)) = false → (rI d ∧ rI (sumV (List.map dI (List.take (List.map iD (a.fst :: a.snd)).length (List.drop (0 : Nat) (List.map iD (a.fst :: a.snd))))))) ∧ ∃ (b : List Shr × List Shr), (b.fst ++ b.snd = l ∧ l.length ≤ (60 : Nat)) ∧ ((D.ms (0 : Nat) (0 : Nat) (prts l).length (prts l).length false = D.ms (0 : Nat) (0 : Nat) (List.map iD (a.fst :: a.snd)).length (List.map iD (a.fst :: a.snd)).length false ∧ D.int IntKind.i64 (drI d (sumV (prts l))) = D.int IntKind.i64 (drI d (sumV (List.map dI (List.take (List.map iD (a.fst :: a.snd)).length (List.drop (0 : Nat) (List.map iD (a.fst :: a.snd))))))) ∧ D.sl f (List.map shD l) = D.sl f (List.map shD l) ∧ D.int IntKind.i64 (↑(List.map shD l).length : Int) = D.int IntKind.i64 (↑(List.map shD l).length : Int) ∧ D.int IntKind.i64 (↑b.fst.length : Int) = D.int IntKind.i64 (0 : Int)) ∧ (some (Ob.row St.own (1 : Nat) (List.map iD (prts l))) = none ∨ some (Ob.row St.own (1 : Nat) (List.map iD (prts l))) = some (Ob.row St.own (1 : Nat) (List.map iD (a.fst :: a.snd))) ∧ (List.map iD (a.fst :: a.snd)).all D.pure = true)) ∧ (∀ (a : Unit), pickR (drI d (sumV (prts l))) (prts b.fst) b.snd = ((0 : Int), false) → D.tup [D.int IntKind.i64 (0 : Int), D.bool false] = D.tup [D.int IntKind.i64 (chooseM l d).fst, D.bool (chooseM l d).snd]) ∧ ∀ (a : Int), pickR (drI d (sumV (prts l))) (prts b.fst) b.snd = (a, true) → D.tup [D.int IntKind.i64 a, D.bool true] = D.tup [D.int IntKind.i64 (chooseM l d).fst, D.bool (chooseM l d).snd]) := by
  have hs : rI (sumV (prts l)) := by have := tot_nonneg (prts l); unfold rI sumV; omega
  refine ⟨([], l), ⟨rfl, h⟩, ?_, fun _ hl => ?_, fun ⟨p, ps⟩ hl => ?_⟩
  · repeat' apply And.intro
    all_goals first
      | rfl
      | exact .inl rfl
  · have e : chooseM l d = (0, false) := by unfold chooseM; rw [hl]; rfl
    rw [e]
    exact ⟨⟨rfl, by omega⟩, fun _ => rfl, fun h => by cases h⟩
  · simp only at hl ⊢
    have e2 : List.take (List.map iD (p :: ps)).length (List.drop 0 (List.map iD (p :: ps))) = List.map iD (p :: ps) := by rw [List.drop_zero, List.take_length]
    rw [e2, map_dI, ← hl]
    have hlen : (List.map iD (prts l)).length ≤ 9223372036854775807 := by rw [List.length_map]; unfold prts; rw [List.length_map]; omega
    refine ⟨by omega, pure_iD _, ⟨rfl, hlen⟩, fun h0 => ?_, fun h0 => ⟨⟨hd, hs⟩, ([], l), ⟨rfl, h⟩, ?_, fun _ hh => ?_, fun a hh => ?_⟩⟩
    · have h0 := of_decide_eq_true h0
      unfold chooseM
      rw [if_pos h0]
    · repeat' apply And.intro
      all_goals first
        | rfl
        | exact .inr ⟨rfl, pure_iD _⟩
        | exact True.intro
        | (rw [List.length_map])
    · have h0 := of_decide_eq_false h0
      unfold chooseM
      rw [if_neg h0]
      have hh : pickR (drI d (sumV (prts l))) [] l = (0, false) := hh
      rw [hh]
    · have h0 := of_decide_eq_false h0
      unfold chooseM
      rw [if_neg h0]
      have hh : pickR (drI d (sumV (prts l))) [] l = (a, true) := hh
      rw [hh]
theorem ch_fits (f : Bool) (d : Int) (l : List Shr) : ∀ x ∈ [lp Try.f63 3, lp Try.f63 12], LoopFits Try.prog (chCfg f d l) 49 x := by
  intro x hx
  simp only [List.mem_cons, List.not_mem_nil, or_false] at hx
  rcases hx with rfl | rfl
  · exact (chA f d l).fits 3 [(0, true)] (by kernel_rfl) rfl (chAR f d l)
  · exact (chB f (drI d (sumV (prts l))) l).fits 12 [(0, true)] (by kernel_rfl) rfl (chBR f _ l)
def chooseS (vs : List D) : Option DOut := match vs with | [.sl _ xs, .int .i64 d] => some ⟨(∃ l : List Shr, xs = l.map shD ∧ l.length ≤ 60) ∧ rI d, .tup [.int .i64 (chooseM (xs.map dShr) d).1, .bool (chooseM (xs.map dShr) d).2]⟩ | _ => none
def chooseC : Ctr := ⟨63, chooseS, by
  intro vs o ho hp
  unfold chooseS at ho
  split at ho
  · rename_i f xs d
    injection ho with ho; subst ho
    obtain ⟨⟨l, rfl, hl⟩, hd⟩ := hp
    simp only [map_dShr]
    exact dataFunL (C := chCfg f d l) (ctrs_ok chC rfl rfl) rfl Try.func63 (by kernel_rfl) (l := [lp Try.f63 3, lp Try.f63 12]) (by kernel_rfl) (ch_fits f d l) (by kernel_rfl) (by kernel_rfl) (by kernel_rfl) (chN f d l hd hl)
  · cases ho⟩
end Go.Proofs.Ytgibpomhiilehaa.Dv
