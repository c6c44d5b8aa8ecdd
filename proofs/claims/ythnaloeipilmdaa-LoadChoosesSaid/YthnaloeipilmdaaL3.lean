/- LoadChooses: the walk. -/
import Derived.Test.YthnaloeipilmdaaL2
set_option linter.unusedVariables false
set_option linter.unusedSimpArgs false
namespace Go.Proofs.Ythnaloeipilmdaa.Dv
open Go Go.Proofs
def qs (l : List Int) : List Int := l.map c40
def shs (l : List Int) : List Shr := mkS 0 (qs l)
noncomputable def lcC : List Ctr := [chooseC, aw18]
def lcA (f : Bool) (all : List Int) : WLoop :=
  { St := List Int × List Int
    O := List Shr
    T := fun s => [(3, outD 0 ((shs s.1).map shD)), (4, .int .i64 (qs s.1).sum), (23, .sl f (all.map iD)), (24, .int .i64 (all.map iD).length), (25, .int .i64 s.1.length)]
    S := fun s => [outO 2 ((shs s.1).map shD)]
    ok := fun s => s.1 ++ s.2 = all ∧ all.length ≤ 12
    μ := fun s => s.2.length
    m := fun _ => shs all
    src := [(2, true)]
    outs := [{ α := Unit, is := fun o _ => o = [], ex := .exit 0, T := fun _ => [(3, .sl true []), (4, .int .i64 0)] },
      { α := Shr × List Shr, is := fun o a => o = a.1 :: a.2, ex := .exit 0, src := [(0, true)], T := fun a => [(3, outD 0 ((a.1 :: a.2).map shD)), (4, .int .i64 (qs all).sum)], S := fun a => [outO 2 ((a.1 :: a.2).map shD)] }] }
theorem qs_ok (l : List Int) : okP (qs l) := by intro p hp; obtain ⟨x, _, rfl⟩ := List.mem_map.1 hp; exact c40_in x
theorem qs_len (l : List Int) : (qs l).length = l.length := List.length_map ..
theorem shs_len (l : List Int) : (shs l).length = l.length := by unfold shs; rw [mkS_len, qs_len]
theorem shs_snoc (l : List Int) (p : Int) : (shs (l ++ [p])).map shD = (shs l).map shD ++ [shD ((l.length : Int), c40 p)] := by
  unfold shs qs
  rw [List.map_append, List.map_cons, List.map_nil, mkS_snoc]
  simp
theorem pure_shD (l : List Shr) : (l.map shD).all D.pure = true := by rw [List.all_eq_true]; intro x hx; obtain ⟨n, _, rfl⟩ := List.mem_map.1 hx; rfl
theorem qs_sum (l : List Int) : 0 ≤ (qs l).sum ∧ (qs l).sum ≤ 39 * l.length := by
  have := tot_sum (qs_ok l)
  rw [qs_len] at this
  exact this.2
theorem lcAR (f : Bool) (all : List Int) (s : (lcA f all).St) (hs : (lcA f all).ok s) : Tri Try.prog 0 117 (lp Try.f19 6) (tb ((lcA f all).T s)) ((lcA f all).S s) ((lcA f all).q 0 s) := by
  obtain ⟨a, r⟩ := s
  obtain ⟨h1, h2⟩ := hs
  simp only at h1
  cases r with
  | nil =>
    cases a with
    | nil =>
      refine round0 (C := lCfg [] [(26, .f)]) (ctrs_ok ([]) rfl rfl) (by kernel_rfl) (by kernel_rfl) (q := decide ((0 : Int) < (↑(List.map iD all).length : Int)) = false ∧ ((∃ (a : Unit), shs all = [] ∧ D.sl true [] = D.sl true [] ∧ D.int IntKind.i64 (0 : Int) = D.int IntKind.i64 [].sum) ∨ ∃ (a : Shr × List Shr), shs all = a.fst :: a.snd ∧ (D.ms (0 : Nat) (0 : Nat) (List.map shD (a.fst :: a.snd)).length (List.map shD (a.fst :: a.snd)).length false = D.sl true [] ∧ D.int IntKind.i64 (qs all).sum = D.int IntKind.i64 [].sum) ∧ (some (Ob.row St.own (2 : Nat) (List.map shD (a.fst :: a.snd))) = none ∨ some (Ob.row St.own (2 : Nat) (List.map shD (a.fst :: a.snd))) = none ∧ False))) (by kernel_rfl) ?_
      subst h1
      exact ⟨by simp, .inl ⟨(), rfl, ⟨rfl, rfl⟩⟩⟩
    | cons y ys =>
      refine round0 (C := lCfg [] [(26, .f)]) (ctrs_ok ([]) rfl rfl) (by kernel_rfl) (by kernel_rfl) (q := decide ((↑(y :: ys).length : Int) < (↑(List.map iD all).length : Int)) = false ∧ ((∃ (a : Unit), shs all = [] ∧ D.sl true [] = D.any ∧ D.int IntKind.i64 (0 : Int) = D.int IntKind.i64 (qs (y :: ys)).sum) ∨ ∃ (a : Shr × List Shr), shs all = a.fst :: a.snd ∧ (D.ms (0 : Nat) (0 : Nat) (List.map shD (a.fst :: a.snd)).length (List.map shD (a.fst :: a.snd)).length false = D.ms (0 : Nat) (0 : Nat) (List.map shD (shs (y :: ys))).length (List.map shD (shs (y :: ys))).length false ∧ D.int IntKind.i64 (qs all).sum = D.int IntKind.i64 (qs (y :: ys)).sum) ∧ (some (Ob.row St.own (2 : Nat) (List.map shD (a.fst :: a.snd))) = none ∨ some (Ob.row St.own (2 : Nat) (List.map shD (a.fst :: a.snd))) = some (Ob.row St.own (2 : Nat) (List.map shD (shs (y :: ys)))) ∧ (List.map shD (shs (y :: ys))).all D.pure = true))) (by kernel_rfl) ?_
      rw [List.append_nil] at h1
      subst h1
      have hl : (List.map shD (((0 : Int), c40 y) :: mkS 1 (qs ys))).length = (List.map shD (shs (y :: ys))).length := rfl
      exact ⟨by simp, .inr ⟨(((0 : Int), c40 y), mkS 1 (qs ys)), rfl, ⟨rfl, rfl⟩, .inr ⟨rfl, pure_shD _⟩⟩⟩
  | cons p r =>
    cases a with
    | nil =>
      refine round0 (C := lCfg [] [(26, .t), (31, .w)]) (ctrs_ok ([]) rfl rfl) (by kernel_rfl) (by kernel_rfl) (q := decide ((0 : Int) < (↑(List.map iD all).length : Int)) = true ∧ ∃ (y : Int), (0 : Int) ≤ (0 : Int) ∧ (List.map iD all)[(0 : Nat)]? = some (D.int IntKind.i64 y) ∧ (0 : Int) ≤ wr IntKind.u64 y ∧ (0 : Int) < (40 : Int) ∧ inK IntKind.i64 (wr IntKind.u64 y % (40 : Int)) ∧ inK IntKind.i64 ([].sum + wr IntKind.u64 y % (40 : Int)) ∧ inK IntKind.i64 ((0 : Int) + (1 : Int)) ∧ ∃ (s' : List Int × List Int), (s'.fst ++ s'.snd = all ∧ all.length ≤ (12 : Nat)) ∧ s'.snd.length.succ ≤ (p :: r).length ∧ shs all = shs all ∧ (outD (0 : Nat) (List.map shD (shs s'.fst)) = D.ms (0 : Nat) (0 : Nat) (1 : Nat) (1 : Nat) false ∧ D.int IntKind.i64 (qs s'.fst).sum = D.int IntKind.i64 ([].sum + wr IntKind.u64 y % (40 : Int)) ∧ D.sl f (List.map iD all) = D.sl f (List.map iD all) ∧ D.int IntKind.i64 (↑(List.map iD all).length : Int) = D.int IntKind.i64 (↑(List.map iD all).length : Int) ∧ D.int IntKind.i64 (↑s'.fst.length : Int) = D.int IntKind.i64 ((0 : Int) + (1 : Int))) ∧ (outO (2 : Nat) (List.map shD (shs s'.fst)) = none ∨ outO (2 : Nat) (List.map shD (shs s'.fst)) = some (Ob.row St.own (2 : Nat) [D.agg [D.int IntKind.i64 (0 : Int), D.int IntKind.i64 (wr IntKind.u64 y % (40 : Int))]]) ∧ true = true)) (by kernel_rfl) ?_
      subst h1
      have hc := c40_in p
      have hu : 0 ≤ wr IntKind.u64 p := by simp only [wr]; omega
      refine ⟨by simp, p, by omega, rfl, hu, by omega, by simp only [inK]; omega, ?_, by simp only [inK]; omega, ([p], r), ⟨rfl, h2⟩, Nat.le_refl _, rfl, ⟨rfl, ?_, rfl, rfl, rfl⟩, .inr ⟨rfl, rfl⟩⟩
      · show inK _ (0 + c40 p)
        simp only [inK]; omega
      · show D.int .i64 ([c40 p]).sum = D.int .i64 (0 + c40 p)
        simp
    | cons y ys =>
      refine round0 (C := lCfg [] [(26, .t), (31, .w)]) (ctrs_ok ([]) rfl rfl) (by kernel_rfl) (by kernel_rfl) (q := decide ((↑(y :: ys).length : Int) < (↑(List.map iD all).length : Int)) = true ∧ ∃ (y_1 : Int), (0 : Int) ≤ (↑(y :: ys).length : Int) ∧ (List.map iD all)[(↑(y :: ys).length : Int).toNat]? = some (D.int IntKind.i64 y_1) ∧ (0 : Int) ≤ wr IntKind.u64 y_1 ∧ (0 : Int) < (40 : Int) ∧ inK IntKind.i64 (wr IntKind.u64 y_1 % (40 : Int)) ∧ (0 : Nat) + (List.map shD (shs (y :: ys))).length ≤ (List.map shD (shs (y :: ys))).length ∧ (List.map shD (shs (y :: ys))).length ≤ (List.map shD (shs (y :: ys))).length ∧ ((List.map shD (shs (y :: ys))).length + (1 : Nat)) * (16 : Nat) ≤ (140737488355328 : Nat) ∧ (List.map shD (shs (y :: ys))).length.succ ≤ (List.map shD (shs (y :: ys))).length + (1 : Nat) ∧ (0 : Nat) = (0 : Nat) ∧ inK IntKind.i64 ((qs (y :: ys)).sum + wr IntKind.u64 y_1 % (40 : Int)) ∧ inK IntKind.i64 ((↑(y :: ys).length : Int) + (1 : Int)) ∧ ∃ (s' : List Int × List Int), (s'.fst ++ s'.snd = all ∧ all.length ≤ (12 : Nat)) ∧ s'.snd.length.succ ≤ (p :: r).length ∧ shs all = shs all ∧ (outD (0 : Nat) (List.map shD (shs s'.fst)) = D.ms (0 : Nat) (0 : Nat) ((List.map shD (shs (y :: ys))).length + (1 : Nat)) ((List.map shD (shs (y :: ys))).length + (1 : Nat)) false ∧ D.int IntKind.i64 (qs s'.fst).sum = D.int IntKind.i64 ((qs (y :: ys)).sum + wr IntKind.u64 y_1 % (40 : Int)) ∧ D.sl f (List.map iD all) = D.sl f (List.map iD all) ∧ D.int IntKind.i64 (↑(List.map iD all).length : Int) = D.int IntKind.i64 (↑(List.map iD all).length : Int) ∧ D.int IntKind.i64 (↑s'.fst.length : Int) = D.int IntKind.i64 ((↑(y :: ys).length : Int) + (1 : Int))) ∧ (outO (2 : Nat) (List.map shD (shs s'.fst)) = none ∨ outO (2 : Nat) (List.map shD (shs s'.fst)) = some (Ob.row St.own (2 : Nat) (List.take (List.map shD (shs (y :: ys))).length (List.map shD (shs (y :: ys))) ++ [D.agg [D.int IntKind.i64 (↑(y :: ys).length : Int), D.int IntKind.i64 (wr IntKind.u64 y_1 % (40 : Int))]])) ∧ (List.take (List.map shD (shs (y :: ys))).length (List.map shD (shs (y :: ys))) ++ [D.agg [D.int IntKind.i64 (↑(y :: ys).length : Int), D.int IntKind.i64 (wr IntKind.u64 y_1 % (40 : Int))]]).all D.pure = true)) (by kernel_rfl) ?_
      subst h1
      have hl : (y :: ys).length + (r.length + 1) ≤ 12 := by simp at h2 ⊢; omega
      have hc := c40_in p
      have hu : 0 ≤ wr IntKind.u64 p := by simp only [wr]; omega
      have hs := qs_sum (y :: ys)
      have hp : (List.map shD (shs (y :: ys))).length = (y :: ys).length := by rw [List.length_map, shs_len]
      have ho1 : outD 0 (List.map shD (shs (y :: ys ++ [p]))) = .ms 0 0 ((List.map shD (shs (y :: ys))).length + 1) ((List.map shD (shs (y :: ys))).length + 1) false := by
        rw [shs_snoc, outD_snoc]
      have ho2 : outO 2 (List.map shD (shs (y :: ys ++ [p]))) = some (.row .own 2 (List.take (List.map shD (shs (y :: ys))).length (List.map shD (shs (y :: ys))) ++ [D.agg [.int .i64 (y :: ys).length, .int .i64 (wr .u64 p % 40)]])) := by
        rw [shs_snoc, outO_snoc, List.take_length]; rfl
      have hq : (List.take (List.map shD (shs (y :: ys))).length (List.map shD (shs (y :: ys))) ++ [D.agg [.int .i64 (y :: ys).length, .int .i64 (wr .u64 p % 40)]]).all D.pure = true := by
        rw [List.take_length, List.all_append, pure_shD]; rfl
      have hsum : (qs (y :: ys ++ [p])).sum = (qs (y :: ys)).sum + wr .u64 p % 40 := by
        unfold qs
        rw [List.map_append, List.sum_append]
        simp [c40]
      have hw : wr IntKind.u64 p % 40 = c40 p := rfl
      refine ⟨by simp; omega, p, by omega, get_midI iD _ _ _, hu, by omega, by simp only [inK]; omega, by omega, by omega, by omega, by omega, rfl, by rw [hw]; simp only [inK]; omega, by simp only [inK]; omega, (y :: ys ++ [p], r), ⟨by simp, h2⟩, Nat.le_refl _, rfl, ⟨ho1, by rw [← hsum], ?_⟩, .inr ⟨ho2, hq⟩⟩
      repeat' apply And.intro
      all_goals first
        | rfl
        | (simp; done)
def gotD (q : List Int) (d : Int) : List D := (gotL q d).map iD ++ List.replicate (12 - q.length) (iD 0)
def lcB (L : List Shr) (q : List Int) : WLoop :=
  { St := Int
    O := Unit
    T := fun s => [(3, .ms 0 0 L.length L.length false), (4, .int .i64 q.sum), (7, .ptr 1 0 0), (44, .int .i64 q.sum), (45, .int .i64 s)]
    S := fun s => [some (.row .own 2 (L.map shD)), some (.row .own 12 [.agg (gotD q s)])]
    ok := fun s => L = mkS 0 q ∧ okP q ∧ q.length ≤ 12 ∧ 0 ≤ s ∧ s ≤ q.sum
    μ := fun s => (q.sum - s).toNat
    m := fun _ => ()
    src := [(0, true), (1, true)]
    outs := [{ α := Unit, is := fun _ _ => True, ex := .exit 2, src := [(0, true), (1, true)], T := fun _ => [(3, .ms 0 0 L.length L.length false), (4, .int .i64 q.sum), (7, .ptr 1 0 0)], S := fun _ => [some (.row .own 2 (L.map shD)), some (.row .own 12 [.agg (gotD q q.sum)])] }] }
theorem lcBR (L : List Shr) (q : List Int) (s : Int) (hs : (lcB L q).ok s) : Tri Try.prog 0 117 (lp Try.f19 14) (tb ((lcB L q).T s)) ((lcB L q).S s) ((lcB L q).q 0 s) := by
  obtain ⟨h1, h2, h3, h4, h5⟩ := hs
  rcases Int.lt_or_le s q.sum with h | h
  · refine round0 (C := lCfg lcC [(46, .t), (56, .f), (60, .f), (65, .f), (81, .f)]) (ctrs_ok (lcC) rfl rfl) (by kernel_rfl) (by kernel_rfl) (q := decide (s < q.sum) = true ∧ (0 : Nat) + L.length ≤ (List.map shD L).length ∧ (List.take L.length (List.drop (0 : Nat) (List.map shD L))).all D.pure = true ∧ ((∃ (l : List Shr), List.take L.length (List.drop (0 : Nat) (List.map shD L)) = List.map shD l ∧ l.length ≤ (60 : Nat)) ∧ rI s) ∧ (!(chooseM (List.map dShr (List.take L.length (List.drop (0 : Nat) (List.map shD L)))) s).snd) = false ∧ decide ((chooseM (List.map dShr (List.take L.length (List.drop (0 : Nat) (List.map shD L)))) s).fst < (0 : Int)) = false ∧ decide ((↑L.length : Int) ≤ (chooseM (List.map dShr (List.take L.length (List.drop (0 : Nat) (List.map shD L)))) s).fst) = false ∧ (0 : Int) ≤ (chooseM (List.map dShr (List.take L.length (List.drop (0 : Nat) (List.map shD L)))) s).fst ∧ (chooseM (List.map dShr (List.take L.length (List.drop (0 : Nat) (List.map shD L)))) s).fst < (12 : Int) ∧ ∃ (x : Int), (gotD q s)[(0 : Nat) + (chooseM (List.map dShr (List.take L.length (List.drop (0 : Nat) (List.map shD L)))) s).fst.toNat * (1 : Nat)]? = some (D.int IntKind.i64 x) ∧ inK IntKind.i64 (x + (1 : Int)) ∧ (0 : Int) ≤ (chooseM (List.map dShr (List.take L.length (List.drop (0 : Nat) (List.map shD L)))) s).fst ∧ (chooseM (List.map dShr (List.take L.length (List.drop (0 : Nat) (List.map shD L)))) s).fst < (12 : Int) ∧ ((0 : Nat) + (chooseM (List.map dShr (List.take L.length (List.drop (0 : Nat) (List.map shD L)))) s).fst.toNat * (1 : Nat)).succ ≤ (gotD q s).length ∧ inK IntKind.i64 (s - q.sum) ∧ (0 : Nat) + L.length ≤ (List.map shD L).length ∧ (List.take L.length (List.drop (0 : Nat) (List.map shD L))).all D.pure = true ∧ ((∃ (l : List Shr), List.take L.length (List.drop (0 : Nat) (List.map shD L)) = List.map shD l ∧ l.length ≤ (60 : Nat)) ∧ rI (s - q.sum)) ∧ decide ((chooseM (List.map dShr (List.take L.length (List.drop (0 : Nat) (List.map shD L)))) (s - q.sum)).fst ≠ (chooseM (List.map dShr (List.take L.length (List.drop (0 : Nat) (List.map shD L)))) s).fst) = false ∧ inK IntKind.i64 (s + (1 : Int)) ∧ ∃ (s' : Int), (L = mkS (0 : Nat) q ∧ (∀ (p : Int), List.Mem p q → (0 : Int) ≤ p ∧ p ≤ (39 : Int)) ∧ q.length ≤ (12 : Nat) ∧ (0 : Int) ≤ s' ∧ s' ≤ q.sum) ∧ (q.sum - s').toNat.succ ≤ (q.sum - s).toNat ∧ () = () ∧ (D.ms (0 : Nat) (0 : Nat) L.length L.length false = D.ms (0 : Nat) (0 : Nat) L.length L.length false ∧ D.int IntKind.i64 q.sum = D.int IntKind.i64 q.sum ∧ D.ptr (1 : Nat) (0 : Nat) (0 : Nat) = D.ptr (1 : Nat) (0 : Nat) (0 : Nat) ∧ D.int IntKind.i64 q.sum = D.int IntKind.i64 q.sum ∧ D.int IntKind.i64 s' = D.int IntKind.i64 (s + (1 : Int))) ∧ (some (Ob.row St.own (2 : Nat) (List.map shD L)) = none ∨ some (Ob.row St.own (2 : Nat) (List.map shD L)) = some (Ob.row St.own (2 : Nat) (List.map shD L)) ∧ (List.map shD L).all D.pure = true) ∧ (some (Ob.row St.own (12 : Nat) [D.agg (gotD q s')]) = none ∨ some (Ob.row St.own (12 : Nat) [D.agg (gotD q s')]) = some (Ob.row St.own (12 : Nat) [D.agg (setRange (gotD q s) ((0 : Nat) + (chooseM (List.map dShr (List.take L.length (List.drop (0 : Nat) (List.map shD L)))) s).fst.toNat * (1 : Nat)) [D.int IntKind.i64 (x + (1 : Int))])]) ∧ [D.agg (setRange (gotD q s) ((0 : Nat) + (chooseM (List.map dShr (List.take L.length (List.drop (0 : Nat) (List.map shD L)))) s).fst.toNat * (1 : Nat)) [D.int IntKind.i64 (x + (1 : Int))])].all D.pure = true)) (by kernel_rfl) ?_
    subst h1
    have hsum := (tot_sum h2).2
    have hL : (mkS 0 q).length = q.length := mkS_len q 0
    obtain ⟨i, v, e1, e2, e3, e4, e5, e6⟩ := gotL_step 0 h2 h4 h
    rw [Nat.zero_add] at e1
    have hd1 : drI s q.sum = s := by
      unfold drI
      rw [if_neg (by omega), Int.tmod_eq_emod_of_nonneg h4, Int.emod_eq_of_lt h4 h, if_neg (by omega)]
    have hd2 : drI (s - q.sum) q.sum = s := by
      unfold drI
      rw [if_neg (by omega)]
      have ht : (s - q.sum).tmod q.sum = if s = 0 then 0 else s - q.sum := by
        split
        · rename_i h0
          rw [h0, Int.zero_sub, Int.neg_tmod, Int.tmod_self, Int.neg_zero]
        · have : s - q.sum = -(q.sum - s) := by omega
          rw [this, Int.neg_tmod, Int.tmod_eq_of_lt (by omega) (by omega)]
      rw [ht]
      split <;> split <;> omega
    have hc1 : chooseM (mkS 0 q) s = ((i : Int), true) := by rw [choose_pk h2 h3, if_neg (by omega), hd1, e1]
    have hc2 : chooseM (mkS 0 q) (s - q.sum) = ((i : Int), true) := by rw [choose_pk h2 h3, if_neg (by omega), hd2, e1]
    have ht : List.take (mkS 0 q).length (List.drop 0 (List.map shD (mkS 0 q))) = List.map shD (mkS 0 q) := by rw [List.drop_zero, List.take_of_length_le (by rw [List.length_map]; omega)]
    have hg : (gotD q s).length = 12 := by unfold gotD; rw [List.length_append, List.length_map, gotL_len, List.length_replicate]; omega
    have hi : (0 + (i : Int).toNat * 1) = i := by omega
    have hgi : (gotD q s)[i]? = some (iD v) := by
      unfold gotD
      rw [List.getElem?_append_left (by rw [List.length_map, gotL_len]; exact e2), List.getElem?_map, e3]; rfl
    have hgn : gotD q (s + 1) = setRange (gotD q s) i [.int .i64 (v + 1)] := by
      unfold gotD setRange
      rw [e6]
      have hlen : i < (gotL q s).length := by rw [gotL_len]; exact e2
      rw [List.take_append_of_le_length (by rw [List.length_map]; omega), List.drop_append_of_le_length (by rw [List.length_map]; simp; omega), List.map_set, List.set_eq_take_append_cons_drop, if_pos (by rw [List.length_map]; exact hlen)]
      simp [iD]
    have hpg : ∀ d, [D.agg (gotD q d)].all D.pure = true := by
      intro d
      rw [List.all_cons, List.all_nil, Bool.and_true]
      show (gotD q d).all D.pleaf = true
      unfold gotD
      rw [List.all_append, Bool.and_eq_true, List.all_eq_true, List.all_eq_true]
      refine ⟨fun x hx => ?_, fun x hx => ?_⟩
      · obtain ⟨n, _, rfl⟩ := List.mem_map.1 hx; rfl
      · rw [List.eq_of_mem_replicate hx]; rfl
    rw [ht, map_dShr, hc1, hc2]
    rw [hi]
    have hss : q.sum ≤ 468 := by omega
    refine ⟨by simpa using h, by rw [List.length_map]; omega, pure_shD _, ⟨⟨_, rfl, by omega⟩, by unfold rI; omega⟩, rfl, by simp, by simp; omega, by omega, by omega, v, hgi, by simp only [inK]; omega, by omega, by omega, by omega, by simp only [inK]; omega, by rw [List.length_map]; omega, pure_shD _, ⟨⟨_, rfl, by omega⟩, by unfold rI; omega⟩, by simp, by simp only [inK]; omega, s + 1, ⟨rfl, h2, h3, by omega, by omega⟩, by omega, rfl, ?_, .inr ⟨rfl, pure_shD _⟩, .inr ⟨by rw [hgn], by rw [← hgn]; exact hpg _⟩⟩
    repeat' apply And.intro
    all_goals rfl
  · refine round0 (C := lCfg lcC [(46, .f)]) (ctrs_ok (lcC) rfl rfl) (by kernel_rfl) (by kernel_rfl) (q := decide (s < q.sum) = false ∧ ∃ (a : Unit), True ∧ (D.ms (0 : Nat) (0 : Nat) L.length L.length false = D.ms (0 : Nat) (0 : Nat) L.length L.length false ∧ D.int IntKind.i64 q.sum = D.int IntKind.i64 q.sum ∧ D.ptr (1 : Nat) (0 : Nat) (0 : Nat) = D.ptr (1 : Nat) (0 : Nat) (0 : Nat)) ∧ (some (Ob.row St.own (2 : Nat) (List.map shD L)) = none ∨ some (Ob.row St.own (2 : Nat) (List.map shD L)) = some (Ob.row St.own (2 : Nat) (List.map shD L)) ∧ (List.map shD L).all D.pure = true) ∧ (some (Ob.row St.own (12 : Nat) [D.agg (gotD q q.sum)]) = none ∨ some (Ob.row St.own (12 : Nat) [D.agg (gotD q q.sum)]) = some (Ob.row St.own (12 : Nat) [D.agg (gotD q s)]) ∧ [D.agg (gotD q s)].all D.pure = true)) (by kernel_rfl) ?_
    have : s = q.sum := by omega
    subst this
    have hpg : ∀ d, [D.agg (gotD q d)].all D.pure = true := by
      intro d
      rw [List.all_cons, List.all_nil, Bool.and_true]
      show (gotD q d).all D.pleaf = true
      unfold gotD
      rw [List.all_append, Bool.and_eq_true, List.all_eq_true, List.all_eq_true]
      refine ⟨fun x hx => ?_, fun x hx => ?_⟩
      · obtain ⟨n, _, rfl⟩ := List.mem_map.1 hx; rfl
      · rw [List.eq_of_mem_replicate hx]; rfl
    refine ⟨by simp, (), trivial, ?_, .inr ⟨rfl, pure_shD _⟩, .inr ⟨rfl, hpg _⟩⟩
    repeat' apply And.intro
    all_goals rfl
def lcD (L : List Shr) (q : List Int) : WLoop :=
  { St := List Shr × List Shr
    O := Unit
    T := fun s => [(3, .ms 0 0 L.length L.length false), (4, .int .i64 q.sum), (7, .ptr 1 0 0), (83, .ms 0 0 L.length L.length false), (84, .int .i64 L.length), (85, .int .i64 s.1.length)]
    S := fun s => [some (.row .own 2 (L.map shD)), some (.row .own 12 [.agg (gotD q q.sum)])]
    ok := fun s => s.1 ++ s.2 = L ∧ L = mkS 0 q ∧ okP q ∧ q.length ≤ 12
    μ := fun s => s.2.length
    m := fun _ => ()
    src := [(0, true), (1, true)]
    outs := [{ α := Unit, is := fun _ _ => True, ex := .exit 4, src := [(0, true)], T := fun _ => [(3, .ms 0 0 L.length L.length false), (4, .int .i64 q.sum)], S := fun _ => [some (.row .own 2 (L.map shD))] }] }
theorem lcDR (L : List Shr) (q : List Int) (s : (lcD L q).St) (hs : (lcD L q).ok s) : Tri Try.prog 0 117 (lp Try.f19 25) (tb ((lcD L q).T s)) ((lcD L q).S s) ((lcD L q).q 0 s) := by
  obtain ⟨a, r⟩ := s
  obtain ⟨h1, h2, h3, h4⟩ := hs
  simp only at h1
  cases r with
  | nil =>
    refine round0 (C := lCfg lcC [(86, .f)]) (ctrs_ok (lcC) rfl rfl) (by kernel_rfl) (by kernel_rfl) (q := decide ((↑a.length : Int) < (↑L.length : Int)) = false ∧ ∃ (a : Unit), True ∧ (D.ms (0 : Nat) (0 : Nat) L.length L.length false = D.ms (0 : Nat) (0 : Nat) L.length L.length false ∧ D.int IntKind.i64 q.sum = D.int IntKind.i64 q.sum) ∧ (some (Ob.row St.own (2 : Nat) (List.map shD L)) = none ∨ some (Ob.row St.own (2 : Nat) (List.map shD L)) = some (Ob.row St.own (2 : Nat) (List.map shD L)) ∧ (List.map shD L).all D.pure = true)) (by kernel_rfl) ?_
    refine ⟨?_, (), trivial, ?_, .inr ⟨rfl, pure_shD _⟩⟩
    · rw [← h1]; simp
    · repeat' apply And.intro
      all_goals rfl
  | cons p r =>
    refine round0 (C := lCfg lcC [(86, .t), (95, .f)]) (ctrs_ok (lcC) rfl rfl) (by kernel_rfl) (by kernel_rfl) (q := decide ((↑a.length : Int) < (↑L.length : Int)) = true ∧ (0 : Int) ≤ (↑a.length : Int) ∧ (↑a.length : Int) < (↑L.length : Int) ∧ ∃ (x : Int × Int), (List.map shD L)[(0 : Nat) + (↑a.length : Int).toNat]? = some (D.agg [D.int IntKind.i64 x.fst, D.int IntKind.i64 x.snd]) ∧ (0 : Int) ≤ (↑a.length : Int) ∧ (↑a.length : Int) < (12 : Int) ∧ ∃ (x_1 : Int), (gotD q q.sum)[(0 : Nat) + (↑a.length : Int).toNat * (1 : Nat)]? = some (D.int IntKind.i64 x_1) ∧ decide (x_1 ≠ x.snd) = false ∧ inK IntKind.i64 ((↑a.length : Int) + (1 : Int)) ∧ ∃ (s' : List Shr × List Shr), (s'.fst ++ s'.snd = L ∧ L = mkS (0 : Nat) q ∧ (∀ (p : Int), List.Mem p q → (0 : Int) ≤ p ∧ p ≤ (39 : Int)) ∧ q.length ≤ (12 : Nat)) ∧ s'.snd.length.succ ≤ (p :: r).length ∧ () = () ∧ (D.ms (0 : Nat) (0 : Nat) L.length L.length false = D.ms (0 : Nat) (0 : Nat) L.length L.length false ∧ D.int IntKind.i64 q.sum = D.int IntKind.i64 q.sum ∧ D.ptr (1 : Nat) (0 : Nat) (0 : Nat) = D.ptr (1 : Nat) (0 : Nat) (0 : Nat) ∧ D.ms (0 : Nat) (0 : Nat) L.length L.length false = D.ms (0 : Nat) (0 : Nat) L.length L.length false ∧ D.int IntKind.i64 (↑L.length : Int) = D.int IntKind.i64 (↑L.length : Int) ∧ D.int IntKind.i64 (↑s'.fst.length : Int) = D.int IntKind.i64 ((↑a.length : Int) + (1 : Int))) ∧ (some (Ob.row St.own (2 : Nat) (List.map shD L)) = none ∨ some (Ob.row St.own (2 : Nat) (List.map shD L)) = some (Ob.row St.own (2 : Nat) (List.map shD L)) ∧ (List.map shD L).all D.pure = true) ∧ (some (Ob.row St.own (12 : Nat) [D.agg (gotD q q.sum)]) = none ∨ some (Ob.row St.own (12 : Nat) [D.agg (gotD q q.sum)]) = some (Ob.row St.own (12 : Nat) [D.agg (gotD q q.sum)]) ∧ [D.agg (gotD q q.sum)].all D.pure = true)) (by kernel_rfl) ?_
    have hL : L.length = a.length + (r.length + 1) := by rw [← h1]; simp
    have hq : L.length = q.length := by rw [h2]; exact mkS_len q 0
    have hpq : q[a.length]? = some p.2 := by
      have e := prts_mkS q 0
      rw [← h2, ← h1] at e
      rw [← e]
      simp [prts]
    have hg : (gotD q q.sum)[a.length]? = some (iD p.2) := by
      unfold gotD
      rw [gotL_full h3 (Int.le_refl _), List.getElem?_append_left (by rw [List.length_map]; omega), List.getElem?_map, hpq]; rfl
    have hpg : [D.agg (gotD q q.sum)].all D.pure = true := by
      rw [List.all_cons, List.all_nil, Bool.and_true]
      show (gotD q q.sum).all D.pleaf = true
      unfold gotD
      rw [List.all_append, Bool.and_eq_true, List.all_eq_true, List.all_eq_true]
      refine ⟨fun x hx => ?_, fun x hx => ?_⟩
      · obtain ⟨n, _, rfl⟩ := List.mem_map.1 hx; rfl
      · rw [List.eq_of_mem_replicate hx]; rfl
    have hi : (0 + (a.length : Int).toNat * 1) = a.length := by omega
    have hi2 : (0 + (a.length : Int).toNat) = a.length := by omega
    rw [hi, hi2]
    refine ⟨by simp; omega, by omega, by omega, p, ?_, by omega, by omega, p.2, hg, by simp, by simp only [inK]; omega, (a ++ [p], r), ⟨by rw [← h1]; simp, h2, h3, h4⟩, Nat.le_refl _, rfl, ?_, .inr ⟨rfl, pure_shD _⟩, .inr ⟨rfl, hpg⟩⟩
    · rw [← h1]; exact get_mid shD a p r
    · repeat' apply And.intro
      all_goals first
        | rfl
        | (simp; done)
end Go.Proofs.Ythnaloeipilmdaa.Dv
