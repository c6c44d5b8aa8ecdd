/- Rows of what is known of hosts: those that are picked (printed by wip/tools/pick.py). -/
import Derived.Test.YtgibpomhiilehaaM0
set_option linter.unusedVariables false
set_option linter.unusedSimpArgs false
namespace Go.Proofs.Ytgibpomhiilehaa.Dv
open Go Go.Proofs

def pCp (t : Stat) : Bool := true
def clCpS (vs : List D) : Option DOut := match vs with | [.agg [a0, a1, a2, a3, a4, a5, a6, a7, a8, a9, a10, a11, a12, .bool o, a14, a15, a16, .bool d, a18, a19, a20]] => some ⟨∃ t : Stat, .agg [a0, a1, a2, a3, a4, a5, a6, a7, a8, a9, a10, a11, a12, .bool o, a14, a15, a16, .bool d, a18, a19, a20] = statD t, .bool (true)⟩ | _ => none
theorem clCpN (t : Stat) : D.bool true = D.bool true := by
  first | trivial | rfl | (unfold pCp; cases t.drains <;> cases t.out <;> simp)
def clCpC : Ctr := ⟨91, clCpS, by
  intro vs o ho hp
  unfold clCpS at ho
  split at ho
  · rename_i oo a14 a15 a16 dd a18 a19 a20
    injection ho with ho; subst ho
    obtain ⟨t, ht⟩ := hp
    simp only at ht ⊢
    rw [ht]
    injection ht with ht
    simp only [List.cons.injEq, D.bool.injEq, D.int.injEq, true_and, and_true] at ht
    have hd := ht.2.2.2.2.2.2.2.2.2.2.2.2.2.2.2.2.2.1
    have hoo := ht.2.2.2.2.2.2.2.2.2.2.2.2.2.1
    subst hd hoo
    exact dataFun0 (C := jCfg [] []) (ctrs_ok [] rfl rfl) rfl Try.func91 (by kernel_rfl) (by kernel_rfl) (by kernel_rfl) (by kernel_rfl) (by kernel_rfl) (clCpN t)
  · cases ho⟩
def resCp (l : List Stat) : List Stat := (l.filter pCp).map Stat.cp
def pkCp (f : Bool) (all : List Stat) : WLoop :=
  { St := List Stat × List Stat × List Stat
    O := List Stat
    T := fun s => [(1, .fn 91 [] []), (5, outD 0 (s.2.2.map statD)), (8, .sl f (all.map statD)), (9, .int .i64 (all.map statD).length), (10, .int .i64 s.1.length)]
    S := fun s => [outO 21 (s.2.2.map statD)]
    ok := fun s => s.1 ++ s.2.1 = all ∧ resCp s.1 = s.2.2 ∧ all.length ≤ 1000 ∧ ∀ t ∈ s.2.1, t.small
    μ := fun s => s.2.1.length
    m := fun _ => resCp all
    src := [(0, true)]
    alts := [[(3, true)]]
    outs := [{ α := Unit, is := fun o _ => o = [], ex := .exit 0, T := fun _ => [(5, .sl true [])] },
      { α := Stat × List Stat, is := fun o a => o = a.1 :: a.2, ex := .exit 0, src := [(0, true)], T := fun a => [(5, outD 0 ((a.1 :: a.2).map statD))], S := fun a => [outO 21 ((a.1 :: a.2).map statD)] }] }
theorem resCp_yes {a : List Stat} {t : Stat} (h : pCp t = true) : resCp (a ++ [t]) = resCp a ++ [t.cp] := by unfold resCp; simp [List.filter_append, List.filter_cons, h]
theorem resCp_no {a : List Stat} {t : Stat} (h : pCp t = false) : resCp (a ++ [t]) = resCp a := by unfold resCp; simp [List.filter_append, List.filter_cons, h]
theorem resCp_len (a : List Stat) : (resCp a).length ≤ a.length := by unfold resCp; rw [List.length_map]; exact List.length_filter_le ..
noncomputable def pkCpl : List Ctr := [clCpC, hostCopyC]
theorem pkCpR (f : Bool) (all : List Stat) (s : (pkCp f all).St) (hs : (pkCp f all).ok s) : Tri Try.prog 0 27 (lp Try.f90 3) (tb ((pkCp f all).T s)) ((pkCp f all).S s) ((pkCp f all).q 0 s) := by
  obtain ⟨a, r, u⟩ := s
  obtain ⟨h1, h2, h3, h4⟩ := hs
  simp only at h1 h2 h4
  cases r with
  | nil =>
    rw [List.append_nil] at h1
    subst h1
    cases u with
    | nil =>
      refine round0 (C := jCfg pkCpl [(11, .f)]) (ctrs_ok (pkCpl) rfl rfl) (by kernel_rfl) (by kernel_rfl) (q := decide ((↑a.length : Int) < (↑(List.map statD a).length : Int)) = false ∧ ((∃ (a_1 : Unit), resCp a = [] ∧ D.sl true [] = D.sl true []) ∨ ∃ (a_1 : Stat × List Stat), resCp a = a_1.fst :: a_1.snd ∧ D.ms (0 : Nat) (0 : Nat) (List.map statD (a_1.fst :: a_1.snd)).length (List.map statD (a_1.fst :: a_1.snd)).length false = D.sl true [] ∧ (some (Ob.row St.own (21 : Nat) (List.map statD (a_1.fst :: a_1.snd))) = none ∨ some (Ob.row St.own (21 : Nat) (List.map statD (a_1.fst :: a_1.snd))) = none ∧ False))) (by kernel_rfl) ?_
      exact ⟨by simp, .inl ⟨(), h2, rfl⟩⟩
    | cons y ys =>
      refine round0 (C := jCfg pkCpl [(11, .f)]) (ctrs_ok (pkCpl) rfl rfl) (by kernel_rfl) (by kernel_rfl) (q := decide ((↑a.length : Int) < (↑(List.map statD a).length : Int)) = false ∧ ((∃ (a_1 : Unit), resCp a = [] ∧ D.sl true [] = D.any) ∨ ∃ (a_1 : Stat × List Stat), resCp a = a_1.fst :: a_1.snd ∧ D.ms (0 : Nat) (0 : Nat) (List.map statD (a_1.fst :: a_1.snd)).length (List.map statD (a_1.fst :: a_1.snd)).length false = D.ms (0 : Nat) (0 : Nat) (List.map statD (y :: ys)).length (List.map statD (y :: ys)).length false ∧ (some (Ob.row St.own (21 : Nat) (List.map statD (a_1.fst :: a_1.snd))) = none ∨ some (Ob.row St.own (21 : Nat) (List.map statD (a_1.fst :: a_1.snd))) = some (Ob.row St.own (21 : Nat) (List.map statD (y :: ys))) ∧ (List.map statD (y :: ys)).all D.pure = true))) (by kernel_rfl) ?_
      exact ⟨by simp, .inr ⟨(y, ys), h2, rfl, .inr ⟨rfl, pure_statD _⟩⟩⟩
  | cons t r =>
    have hl : a.length + (r.length + 1) ≤ 1000 := by rw [← h1] at h3; simpa using h3
    have ht := h4 t (List.mem_cons_self ..)
    have h4' : ∀ x ∈ r, x.small := fun x hx => h4 x (List.mem_cons_of_mem _ hx)
    have hm : (List.map pairD t.mt).length * 32 ≤ 140737488355328 := by rw [List.length_map]; have := ht.2.2.1; omega
    have hall : (a ++ [t]) ++ r = all := by rw [← h1]; simp
    have hg : (List.map statD all)[((a.length : Int)).toNat]? = some (statD t) := by rw [← h1]; exact get_midI statD a t r
    have hll : ((a.length : Int) < ((List.map statD all).length : Int)) := by rw [← h1]; simp; omega
    have hix : D.int .i64 ((a ++ [t]).length : Int) = D.int .i64 ((a.length : Int) + 1) := by simp
    have hie : (List.map pairD t.mt).isEmpty = t.mt.isEmpty := List.isEmpty_map
    have hin : inK .i64 ((a.length : Int) + 1) := by simp only [inK]; omega
    cases u with
    | nil =>
      refine round0 (C := jCfg pkCpl [(11, .t)]) (ctrs_ok (pkCpl) rfl rfl) (by kernel_rfl) (by kernel_rfl) (q := decide ((↑a.length : Int) < (↑(List.map statD all).length : Int)) = true ∧ ∃ (y : Stat), (0 : Int) ≤ (↑a.length : Int) ∧ (List.map statD all)[(↑a.length : Int).toNat]? = some (D.agg [D.int IntKind.i64 y.id, D.str y.addr, D.int IntKind.i64 y.prio, D.str y.zone, D.int IntKind.i64 y.w, D.sl y.f (List.map pairD y.mt), D.bool y.up, D.int IntKind.i64 y.run, D.int IntKind.i64 y.forced, D.int IntKind.i64 y.wait, D.int IntKind.i64 y.errors, D.int IntKind.i64 y.bok, D.int IntKind.i64 y.ball, D.bool y.out, D.int IntKind.i64 y.frm, D.int IntKind.i64 y.till, D.int IntKind.i64 y.times, D.bool y.drains, D.int IntKind.i64 y.gone, D.int IntKind.i64 y.since, D.int IntKind.i64 y.active]) ∧ (∃ (t : Stat), D.agg [D.int IntKind.i64 y.id, D.str y.addr, D.int IntKind.i64 y.prio, D.str y.zone, D.int IntKind.i64 y.w, D.sl y.f (List.map pairD y.mt), D.bool y.up, D.int IntKind.i64 y.run, D.int IntKind.i64 y.forced, D.int IntKind.i64 y.wait, D.int IntKind.i64 y.errors, D.int IntKind.i64 y.bok, D.int IntKind.i64 y.ball, D.bool y.out, D.int IntKind.i64 y.frm, D.int IntKind.i64 y.till, D.int IntKind.i64 y.times, D.bool y.drains, D.int IntKind.i64 y.gone, D.int IntKind.i64 y.since, D.int IntKind.i64 y.active] = D.agg [D.int IntKind.i64 t.id, D.str t.addr, D.int IntKind.i64 t.prio, D.str t.zone, D.int IntKind.i64 t.w, D.sl t.f (List.map pairD t.mt), D.bool t.up, D.int IntKind.i64 t.run, D.int IntKind.i64 t.forced, D.int IntKind.i64 t.wait, D.int IntKind.i64 t.errors, D.int IntKind.i64 t.bok, D.int IntKind.i64 t.ball, D.bool t.out, D.int IntKind.i64 t.frm, D.int IntKind.i64 t.till, D.int IntKind.i64 t.times, D.bool t.drains, D.int IntKind.i64 t.gone, D.int IntKind.i64 t.since, D.int IntKind.i64 t.active]) ∧ (true = true → ((List.map pairD y.mt).all D.pure = true ∧ (List.map pairD y.mt).all (okEl (2 : Nat)) = true ∧ (List.map pairD y.mt).length * (32 : Nat) ≤ (140737488355328 : Nat)) ∧ inK IntKind.i64 ((↑a.length : Int) + (1 : Int)) ∧ ((∃ (s' : List Stat × List Stat × List Stat), (s'.fst ++ s'.snd.fst = all ∧ resCp s'.fst = s'.snd.snd ∧ all.length ≤ (1000 : Nat) ∧ ∀ (t : Stat), List.Mem t s'.snd.fst → t.small) ∧ s'.snd.fst.length.succ ≤ (t :: r).length ∧ resCp all = resCp all ∧ (D.fn (91 : Nat) [] [] = D.fn (91 : Nat) [] [] ∧ outD (0 : Nat) (List.map statD s'.snd.snd) = D.any ∧ D.sl f (List.map statD all) = D.sl f (List.map statD all) ∧ D.int IntKind.i64 (↑(List.map statD all).length : Int) = D.int IntKind.i64 (↑(List.map statD all).length : Int) ∧ D.int IntKind.i64 (↑s'.fst.length : Int) = D.int IntKind.i64 ((↑a.length : Int) + (1 : Int))) ∧ (outO (21 : Nat) (List.map statD s'.snd.snd) = none ∨ outO (21 : Nat) (List.map statD s'.snd.snd) = none ∧ False)) ∨ ∃ (s' : List Stat × List Stat × List Stat), (s'.fst ++ s'.snd.fst = all ∧ resCp s'.fst = s'.snd.snd ∧ all.length ≤ (1000 : Nat) ∧ ∀ (t : Stat), List.Mem t s'.snd.fst → t.small) ∧ s'.snd.fst.length.succ ≤ (t :: r).length ∧ resCp all = resCp all ∧ (D.fn (91 : Nat) [] [] = D.fn (91 : Nat) [] [] ∧ outD (0 : Nat) (List.map statD s'.snd.snd) = D.ms (0 : Nat) (0 : Nat) (1 : Nat) (1 : Nat) false ∧ D.sl f (List.map statD all) = D.sl f (List.map statD all) ∧ D.int IntKind.i64 (↑(List.map statD all).length : Int) = D.int IntKind.i64 (↑(List.map statD all).length : Int) ∧ D.int IntKind.i64 (↑s'.fst.length : Int) = D.int IntKind.i64 ((↑a.length : Int) + (1 : Int))) ∧ (outO (21 : Nat) (List.map statD s'.snd.snd) = none ∨ outO (21 : Nat) (List.map statD s'.snd.snd) = some (Ob.row St.own (21 : Nat) [D.agg [D.int IntKind.i64 y.id, D.str y.addr, D.int IntKind.i64 y.prio, D.str y.zone, D.int IntKind.i64 y.w, D.sl (List.map pairD y.mt).isEmpty (List.map pairD y.mt), D.bool y.up, D.int IntKind.i64 y.run, D.int IntKind.i64 y.forced, D.int IntKind.i64 y.wait, D.int IntKind.i64 y.errors, D.int IntKind.i64 y.bok, D.int IntKind.i64 y.ball, D.bool y.out, D.int IntKind.i64 y.frm, D.int IntKind.i64 y.till, D.int IntKind.i64 y.times, D.bool y.drains, D.int IntKind.i64 y.gone, D.int IntKind.i64 y.since, D.int IntKind.i64 y.active]]) ∧ true = true))) ∧ (true = false → inK IntKind.i64 ((↑a.length : Int) + (1 : Int)) ∧ ((∃ (s' : List Stat × List Stat × List Stat), (s'.fst ++ s'.snd.fst = all ∧ resCp s'.fst = s'.snd.snd ∧ all.length ≤ (1000 : Nat) ∧ ∀ (t : Stat), List.Mem t s'.snd.fst → t.small) ∧ s'.snd.fst.length.succ ≤ (t :: r).length ∧ resCp all = resCp all ∧ (D.fn (91 : Nat) [] [] = D.fn (91 : Nat) [] [] ∧ outD (0 : Nat) (List.map statD s'.snd.snd) = D.sl true [] ∧ D.sl f (List.map statD all) = D.sl f (List.map statD all) ∧ D.int IntKind.i64 (↑(List.map statD all).length : Int) = D.int IntKind.i64 (↑(List.map statD all).length : Int) ∧ D.int IntKind.i64 (↑s'.fst.length : Int) = D.int IntKind.i64 ((↑a.length : Int) + (1 : Int))) ∧ (outO (21 : Nat) (List.map statD s'.snd.snd) = none ∨ outO (21 : Nat) (List.map statD s'.snd.snd) = none ∧ False)) ∨ ∃ (s' : List Stat × List Stat × List Stat), (s'.fst ++ s'.snd.fst = all ∧ resCp s'.fst = s'.snd.snd ∧ all.length ≤ (1000 : Nat) ∧ ∀ (t : Stat), List.Mem t s'.snd.fst → t.small) ∧ s'.snd.fst.length.succ ≤ (t :: r).length ∧ resCp all = resCp all ∧ (D.fn (91 : Nat) [] [] = D.fn (91 : Nat) [] [] ∧ outD (0 : Nat) (List.map statD s'.snd.snd) = D.sl true [] ∧ D.sl f (List.map statD all) = D.sl f (List.map statD all) ∧ D.int IntKind.i64 (↑(List.map statD all).length : Int) = D.int IntKind.i64 (↑(List.map statD all).length : Int) ∧ D.int IntKind.i64 (↑s'.fst.length : Int) = D.int IntKind.i64 ((↑a.length : Int) + (1 : Int))) ∧ (outO (21 : Nat) (List.map statD s'.snd.snd) = none ∨ outO (21 : Nat) (List.map statD s'.snd.snd) = none ∧ False)))) (by kernel_rfl) ?_
      refine ⟨decide_eq_true hll, t, by omega, hg, ⟨t, rfl⟩, fun hb => ⟨⟨pure_pairD _, okEl_pairD _, hm⟩, hin, .inr ⟨(a ++ [t], r, [t.cp]), ⟨hall, by rw [resCp_yes hb, h2]; rfl, h3, h4'⟩, Nat.le_refl _, rfl, ?_, .inr ⟨by rw [hie]; rfl, rfl⟩⟩⟩, fun hb => ⟨hin, .inl ⟨(a ++ [t], r, []), ⟨hall, by rw [resCp_no hb, h2], h3, h4'⟩, Nat.le_refl _, rfl, ?_, .inl rfl⟩⟩⟩
      all_goals repeat' apply And.intro
      all_goals first
        | rfl
        | exact hix
    | cons y ys =>
      refine round0 (C := jCfg pkCpl [(11, .t)]) (ctrs_ok (pkCpl) rfl rfl) (by kernel_rfl) (by kernel_rfl) (q := decide ((↑a.length : Int) < (↑(List.map statD all).length : Int)) = true ∧ ∃ (y_1 : Stat), (0 : Int) ≤ (↑a.length : Int) ∧ (List.map statD all)[(↑a.length : Int).toNat]? = some (D.agg [D.int IntKind.i64 y_1.id, D.str y_1.addr, D.int IntKind.i64 y_1.prio, D.str y_1.zone, D.int IntKind.i64 y_1.w, D.sl y_1.f (List.map pairD y_1.mt), D.bool y_1.up, D.int IntKind.i64 y_1.run, D.int IntKind.i64 y_1.forced, D.int IntKind.i64 y_1.wait, D.int IntKind.i64 y_1.errors, D.int IntKind.i64 y_1.bok, D.int IntKind.i64 y_1.ball, D.bool y_1.out, D.int IntKind.i64 y_1.frm, D.int IntKind.i64 y_1.till, D.int IntKind.i64 y_1.times, D.bool y_1.drains, D.int IntKind.i64 y_1.gone, D.int IntKind.i64 y_1.since, D.int IntKind.i64 y_1.active]) ∧ (∃ (t : Stat), D.agg [D.int IntKind.i64 y_1.id, D.str y_1.addr, D.int IntKind.i64 y_1.prio, D.str y_1.zone, D.int IntKind.i64 y_1.w, D.sl y_1.f (List.map pairD y_1.mt), D.bool y_1.up, D.int IntKind.i64 y_1.run, D.int IntKind.i64 y_1.forced, D.int IntKind.i64 y_1.wait, D.int IntKind.i64 y_1.errors, D.int IntKind.i64 y_1.bok, D.int IntKind.i64 y_1.ball, D.bool y_1.out, D.int IntKind.i64 y_1.frm, D.int IntKind.i64 y_1.till, D.int IntKind.i64 y_1.times, D.bool y_1.drains, D.int IntKind.i64 y_1.gone, D.int IntKind.i64 y_1.since, D.int IntKind.i64 y_1.active] = D.agg [D.int IntKind.i64 t.id, D.str t.addr, D.int IntKind.i64 t.prio, D.str t.zone, D.int IntKind.i64 t.w, D.sl t.f (List.map pairD t.mt), D.bool t.up, D.int IntKind.i64 t.run, D.int IntKind.i64 t.forced, D.int IntKind.i64 t.wait, D.int IntKind.i64 t.errors, D.int IntKind.i64 t.bok, D.int IntKind.i64 t.ball, D.bool t.out, D.int IntKind.i64 t.frm, D.int IntKind.i64 t.till, D.int IntKind.i64 t.times, D.bool t.drains, D.int IntKind.i64 t.gone, D.int IntKind.i64 t.since, D.int IntKind.i64 t.active]) ∧ (true = true → ((List.map pairD y_1.mt).all D.pure = true ∧ (List.map pairD y_1.mt).all (okEl (2 : Nat)) = true ∧ (List.map pairD y_1.mt).length * (32 : Nat) ≤ (140737488355328 : Nat)) ∧ (0 : Nat) + (List.map statD (y :: ys)).length ≤ (List.map statD (y :: ys)).length ∧ (List.map statD (y :: ys)).length ≤ (List.map statD (y :: ys)).length ∧ ((List.map statD (y :: ys)).length + (1 : Nat)) * (200 : Nat) ≤ (140737488355328 : Nat) ∧ (List.map statD (y :: ys)).length.succ ≤ (List.map statD (y :: ys)).length + (1 : Nat) ∧ (0 : Nat) = (0 : Nat) ∧ inK IntKind.i64 ((↑a.length : Int) + (1 : Int)) ∧ ((∃ (s' : List Stat × List Stat × List Stat), (s'.fst ++ s'.snd.fst = all ∧ resCp s'.fst = s'.snd.snd ∧ all.length ≤ (1000 : Nat) ∧ ∀ (t : Stat), List.Mem t s'.snd.fst → t.small) ∧ s'.snd.fst.length.succ ≤ (t :: r).length ∧ resCp all = resCp all ∧ (D.fn (91 : Nat) [] [] = D.fn (91 : Nat) [] [] ∧ outD (0 : Nat) (List.map statD s'.snd.snd) = D.any ∧ D.sl f (List.map statD all) = D.sl f (List.map statD all) ∧ D.int IntKind.i64 (↑(List.map statD all).length : Int) = D.int IntKind.i64 (↑(List.map statD all).length : Int) ∧ D.int IntKind.i64 (↑s'.fst.length : Int) = D.int IntKind.i64 ((↑a.length : Int) + (1 : Int))) ∧ (outO (21 : Nat) (List.map statD s'.snd.snd) = none ∨ outO (21 : Nat) (List.map statD s'.snd.snd) = none ∧ False)) ∨ ∃ (s' : List Stat × List Stat × List Stat), (s'.fst ++ s'.snd.fst = all ∧ resCp s'.fst = s'.snd.snd ∧ all.length ≤ (1000 : Nat) ∧ ∀ (t : Stat), List.Mem t s'.snd.fst → t.small) ∧ s'.snd.fst.length.succ ≤ (t :: r).length ∧ resCp all = resCp all ∧ (D.fn (91 : Nat) [] [] = D.fn (91 : Nat) [] [] ∧ outD (0 : Nat) (List.map statD s'.snd.snd) = D.ms (0 : Nat) (0 : Nat) ((List.map statD (y :: ys)).length + (1 : Nat)) ((List.map statD (y :: ys)).length + (1 : Nat)) false ∧ D.sl f (List.map statD all) = D.sl f (List.map statD all) ∧ D.int IntKind.i64 (↑(List.map statD all).length : Int) = D.int IntKind.i64 (↑(List.map statD all).length : Int) ∧ D.int IntKind.i64 (↑s'.fst.length : Int) = D.int IntKind.i64 ((↑a.length : Int) + (1 : Int))) ∧ (outO (21 : Nat) (List.map statD s'.snd.snd) = none ∨ outO (21 : Nat) (List.map statD s'.snd.snd) = some (Ob.row St.own (21 : Nat) (List.take (List.map statD (y :: ys)).length (List.map statD (y :: ys)) ++ [D.agg [D.int IntKind.i64 y_1.id, D.str y_1.addr, D.int IntKind.i64 y_1.prio, D.str y_1.zone, D.int IntKind.i64 y_1.w, D.sl (List.map pairD y_1.mt).isEmpty (List.map pairD y_1.mt), D.bool y_1.up, D.int IntKind.i64 y_1.run, D.int IntKind.i64 y_1.forced, D.int IntKind.i64 y_1.wait, D.int IntKind.i64 y_1.errors, D.int IntKind.i64 y_1.bok, D.int IntKind.i64 y_1.ball, D.bool y_1.out, D.int IntKind.i64 y_1.frm, D.int IntKind.i64 y_1.till, D.int IntKind.i64 y_1.times, D.bool y_1.drains, D.int IntKind.i64 y_1.gone, D.int IntKind.i64 y_1.since, D.int IntKind.i64 y_1.active]])) ∧ (List.take (List.map statD (y :: ys)).length (List.map statD (y :: ys)) ++ [D.agg [D.int IntKind.i64 y_1.id, D.str y_1.addr, D.int IntKind.i64 y_1.prio, D.str y_1.zone, D.int IntKind.i64 y_1.w, D.sl (List.map pairD y_1.mt).isEmpty (List.map pairD y_1.mt), D.bool y_1.up, D.int IntKind.i64 y_1.run, D.int IntKind.i64 y_1.forced, D.int IntKind.i64 y_1.wait, D.int IntKind.i64 y_1.errors, D.int IntKind.i64 y_1.bok, D.int IntKind.i64 y_1.ball, D.bool y_1.out, D.int IntKind.i64 y_1.frm, D.int IntKind.i64 y_1.till, D.int IntKind.i64 y_1.times, D.bool y_1.drains, D.int IntKind.i64 y_1.gone, D.int IntKind.i64 y_1.since, D.int IntKind.i64 y_1.active]]).all D.pure = true))) ∧ (true = false → inK IntKind.i64 ((↑a.length : Int) + (1 : Int)) ∧ ((∃ (s' : List Stat × List Stat × List Stat), (s'.fst ++ s'.snd.fst = all ∧ resCp s'.fst = s'.snd.snd ∧ all.length ≤ (1000 : Nat) ∧ ∀ (t : Stat), List.Mem t s'.snd.fst → t.small) ∧ s'.snd.fst.length.succ ≤ (t :: r).length ∧ resCp all = resCp all ∧ (D.fn (91 : Nat) [] [] = D.fn (91 : Nat) [] [] ∧ outD (0 : Nat) (List.map statD s'.snd.snd) = D.ms (0 : Nat) (0 : Nat) (List.map statD (y :: ys)).length (List.map statD (y :: ys)).length false ∧ D.sl f (List.map statD all) = D.sl f (List.map statD all) ∧ D.int IntKind.i64 (↑(List.map statD all).length : Int) = D.int IntKind.i64 (↑(List.map statD all).length : Int) ∧ D.int IntKind.i64 (↑s'.fst.length : Int) = D.int IntKind.i64 ((↑a.length : Int) + (1 : Int))) ∧ (outO (21 : Nat) (List.map statD s'.snd.snd) = none ∨ outO (21 : Nat) (List.map statD s'.snd.snd) = some (Ob.row St.own (21 : Nat) (List.map statD (y :: ys))) ∧ (List.map statD (y :: ys)).all D.pure = true)) ∨ ∃ (s' : List Stat × List Stat × List Stat), (s'.fst ++ s'.snd.fst = all ∧ resCp s'.fst = s'.snd.snd ∧ all.length ≤ (1000 : Nat) ∧ ∀ (t : Stat), List.Mem t s'.snd.fst → t.small) ∧ s'.snd.fst.length.succ ≤ (t :: r).length ∧ resCp all = resCp all ∧ (D.fn (91 : Nat) [] [] = D.fn (91 : Nat) [] [] ∧ outD (0 : Nat) (List.map statD s'.snd.snd) = D.any ∧ D.sl f (List.map statD all) = D.sl f (List.map statD all) ∧ D.int IntKind.i64 (↑(List.map statD all).length : Int) = D.int IntKind.i64 (↑(List.map statD all).length : Int) ∧ D.int IntKind.i64 (↑s'.fst.length : Int) = D.int IntKind.i64 ((↑a.length : Int) + (1 : Int))) ∧ (outO (21 : Nat) (List.map statD s'.snd.snd) = none ∨ outO (21 : Nat) (List.map statD s'.snd.snd) = none ∧ False)))) (by kernel_rfl) ?_
      have hyl : (List.map statD (y :: ys)).length ≤ 1000 := by rw [List.length_map, ← h2]; have := resCp_len a; omega
      have he : List.map statD (y :: ys ++ [t.cp]) = List.map statD (y :: ys) ++ [statD t.cp] := List.map_append
      have ho1 : outD 0 (List.map statD (y :: ys ++ [t.cp])) = .ms 0 0 ((List.map statD (y :: ys)).length + 1) ((List.map statD (y :: ys)).length + 1) false := by
        rw [he, outD_snoc]
      have ho2 : outO 21 (List.map statD (y :: ys ++ [t.cp])) = some (.row .own 21 (List.take (List.map statD (y :: ys)).length (List.map statD (y :: ys)) ++ [statD t.cp])) := by
        rw [he, outO_snoc, List.take_length]
      have hq : (List.take (List.map statD (y :: ys)).length (List.map statD (y :: ys)) ++ [statD t.cp]).all D.pure = true := by
        rw [List.take_length, List.all_append, pure_statD]; rfl
      refine ⟨decide_eq_true hll, t, by omega, hg, ⟨t, rfl⟩, fun hb => ⟨⟨pure_pairD _, okEl_pairD _, hm⟩, by omega, Nat.le_refl _, by omega, Nat.le_refl _, rfl, hin, .inr ⟨(a ++ [t], r, y :: ys ++ [t.cp]), ⟨hall, by rw [resCp_yes hb, h2], h3, h4'⟩, Nat.le_refl _, rfl, ?_, .inr ⟨by rw [hie]; exact ho2, by rw [hie]; exact hq⟩⟩⟩, fun hb => ⟨hin, .inl ⟨(a ++ [t], r, y :: ys), ⟨hall, by rw [resCp_no hb, h2], h3, h4'⟩, Nat.le_refl _, rfl, ?_, .inr ⟨rfl, pure_statD _⟩⟩⟩⟩
      all_goals repeat' apply And.intro
      all_goals first
        | rfl
        | exact hix
        | exact ho1
noncomputable def pkCpg (f : Bool) (l : List Stat) : WCfg := { jCfg pkCpl [] with loops := fun k => match k with | 3 => some ((pkCp f l).row [(0, true)]) | _ => none }
theorem pkCpT (f : Bool) (l : List Stat) (h1 : l.length ≤ 1000) (h2 : ∀ t ∈ l, t.small) : ∃ (b : List Stat × List Stat × List Stat), (b.fst ++ b.snd.fst = l ∧ resCp b.fst = b.snd.snd ∧ l.length ≤ (1000 : Nat) ∧ ∀ (t : Stat), List.Mem t b.snd.fst → t.small) ∧ ((D.fn (91 : Nat) [] [] = D.fn (91 : Nat) [] [] ∧ outD (0 : Nat) (List.map statD b.snd.snd) = D.sl true [] ∧ D.sl f (List.map statD l) = D.sl f (List.map statD l) ∧ D.int IntKind.i64 (↑(List.map statD l).length : Int) = D.int IntKind.i64 (↑(List.map statD l).length : Int) ∧ D.int IntKind.i64 (↑b.fst.length : Int) = D.int IntKind.i64 (0 : Int)) ∧ (outO (21 : Nat) (List.map statD b.snd.snd) = none ∨ outO (21 : Nat) (List.map statD b.snd.snd) = none ∧ False)) ∧ (∀ (a : Unit), resCp l = [] → D.sl true [] = D.sl (resCp l).isEmpty (List.map statD (resCp l))) ∧ ∀ (a : Stat × List Stat), resCp l = a.fst :: a.snd → (0 : Nat) + (List.map statD (a.fst :: a.snd)).length ≤ (List.map statD (a.fst :: a.snd)).length ∧ (List.take (List.map statD (a.fst :: a.snd)).length (List.drop (0 : Nat) (List.map statD (a.fst :: a.snd)))).all D.pure = true ∧ D.sl false (List.take (List.map statD (a.fst :: a.snd)).length (List.drop (0 : Nat) (List.map statD (a.fst :: a.snd)))) = D.sl (resCp l).isEmpty (List.map statD (resCp l)) := by
  refine ⟨([], l, []), ⟨rfl, rfl, h1, h2⟩, ⟨?_, .inl rfl⟩, fun _ h => by rw [h]; rfl, fun a h => ?_⟩
  · repeat' apply And.intro
    all_goals rfl
  · rw [h, List.drop_zero, List.take_length]
    exact ⟨by omega, pure_statD _, rfl⟩
def pkCpS (vs : List D) : Option DOut := match vs with | [.sl f xs, .fn 91 [] []] => some ⟨∃ l : List Stat, xs = l.map statD ∧ l.length ≤ 1000 ∧ ∀ t ∈ l, t.small, .sl (resCp (xs.map dStat)).isEmpty ((resCp (xs.map dStat)).map statD)⟩ | _ => none
def pkCpC : Ctr := ⟨90, pkCpS, by
  intro vs o ho hp
  unfold pkCpS at ho
  split at ho
  · rename_i f xs
    injection ho with ho; subst ho
    obtain ⟨l, rfl, h1, h2⟩ := hp
    simp only [map_dStat]
    refine dataFunL (C := pkCpg f l) (ctrs_ok pkCpl rfl rfl) rfl Try.func90 (by kernel_rfl) (l := [lp Try.f90 3]) (by kernel_rfl) ?_ (by kernel_rfl) (by kernel_rfl) (by kernel_rfl) (pkCpT f l h1 h2)
    intro x hx
    rw [List.mem_singleton.1 hx]
    exact (pkCp f l).fits 3 [(0, true)] (by kernel_rfl) rfl (pkCpR f l)
  · cases ho⟩

def pMb (t : Stat) : Bool := !t.drains
def clMbS (vs : List D) : Option DOut := match vs with | [.agg [a0, a1, a2, a3, a4, a5, a6, a7, a8, a9, a10, a11, a12, .bool o, a14, a15, a16, .bool d, a18, a19, a20]] => some ⟨∃ t : Stat, .agg [a0, a1, a2, a3, a4, a5, a6, a7, a8, a9, a10, a11, a12, .bool o, a14, a15, a16, .bool d, a18, a19, a20] = statD t, .bool (!d)⟩ | _ => none
theorem clMbN (t : Stat) : (D.bool !t.drains) = D.bool (pMb t) := by
  first | trivial | rfl | (unfold pMb; cases t.drains <;> cases t.out <;> simp)
def clMbC : Ctr := ⟨119, clMbS, by
  intro vs o ho hp
  unfold clMbS at ho
  split at ho
  · rename_i oo a14 a15 a16 dd a18 a19 a20
    injection ho with ho; subst ho
    obtain ⟨t, ht⟩ := hp
    simp only at ht ⊢
    rw [ht]
    injection ht with ht
    simp only [List.cons.injEq, D.bool.injEq, D.int.injEq, true_and, and_true] at ht
    have hd := ht.2.2.2.2.2.2.2.2.2.2.2.2.2.2.2.2.2.1
    have hoo := ht.2.2.2.2.2.2.2.2.2.2.2.2.2.1
    subst hd hoo
    exact dataFun0 (C := jCfg [] []) (ctrs_ok [] rfl rfl) rfl Try.func119 (by kernel_rfl) (by kernel_rfl) (by kernel_rfl) (by kernel_rfl) (by kernel_rfl) (clMbN t)
  · cases ho⟩
def resMb (l : List Stat) : List Stat := (l.filter pMb).map Stat.cp
def pkMb (f : Bool) (all : List Stat) : WLoop :=
  { St := List Stat × List Stat × List Stat
    O := List Stat
    T := fun s => [(1, .fn 119 [] []), (5, outD 0 (s.2.2.map statD)), (8, .sl f (all.map statD)), (9, .int .i64 (all.map statD).length), (10, .int .i64 s.1.length)]
    S := fun s => [outO 21 (s.2.2.map statD)]
    ok := fun s => s.1 ++ s.2.1 = all ∧ resMb s.1 = s.2.2 ∧ all.length ≤ 1000 ∧ ∀ t ∈ s.2.1, t.small
    μ := fun s => s.2.1.length
    m := fun _ => resMb all
    src := [(0, true)]
    alts := [[(3, true)]]
    outs := [{ α := Unit, is := fun o _ => o = [], ex := .exit 0, T := fun _ => [(5, .sl true [])] },
      { α := Stat × List Stat, is := fun o a => o = a.1 :: a.2, ex := .exit 0, src := [(0, true)], T := fun a => [(5, outD 0 ((a.1 :: a.2).map statD))], S := fun a => [outO 21 ((a.1 :: a.2).map statD)] }] }
theorem resMb_yes {a : List Stat} {t : Stat} (h : pMb t = true) : resMb (a ++ [t]) = resMb a ++ [t.cp] := by unfold resMb; simp [List.filter_append, List.filter_cons, h]
theorem resMb_no {a : List Stat} {t : Stat} (h : pMb t = false) : resMb (a ++ [t]) = resMb a := by unfold resMb; simp [List.filter_append, List.filter_cons, h]
theorem resMb_len (a : List Stat) : (resMb a).length ≤ a.length := by unfold resMb; rw [List.length_map]; exact List.length_filter_le ..
noncomputable def pkMbl : List Ctr := [clMbC, hostCopyC]
theorem pkMbR (f : Bool) (all : List Stat) (s : (pkMb f all).St) (hs : (pkMb f all).ok s) : Tri Try.prog 0 27 (lp Try.f90 3) (tb ((pkMb f all).T s)) ((pkMb f all).S s) ((pkMb f all).q 0 s) := by
  obtain ⟨a, r, u⟩ := s
  obtain ⟨h1, h2, h3, h4⟩ := hs
  simp only at h1 h2 h4
  cases r with
  | nil =>
    rw [List.append_nil] at h1
    subst h1
    cases u with
    | nil =>
      refine round0 (C := jCfg pkMbl [(11, .f)]) (ctrs_ok (pkMbl) rfl rfl) (by kernel_rfl) (by kernel_rfl) (q := decide ((↑a.length : Int) < (↑(List.map statD a).length : Int)) = false ∧ ((∃ (a_1 : Unit), resMb a = [] ∧ D.sl true [] = D.sl true []) ∨ ∃ (a_1 : Stat × List Stat), resMb a = a_1.fst :: a_1.snd ∧ D.ms (0 : Nat) (0 : Nat) (List.map statD (a_1.fst :: a_1.snd)).length (List.map statD (a_1.fst :: a_1.snd)).length false = D.sl true [] ∧ (some (Ob.row St.own (21 : Nat) (List.map statD (a_1.fst :: a_1.snd))) = none ∨ some (Ob.row St.own (21 : Nat) (List.map statD (a_1.fst :: a_1.snd))) = none ∧ False))) (by kernel_rfl) ?_
      exact ⟨by simp, .inl ⟨(), h2, rfl⟩⟩
    | cons y ys =>
      refine round0 (C := jCfg pkMbl [(11, .f)]) (ctrs_ok (pkMbl) rfl rfl) (by kernel_rfl) (by kernel_rfl) (q := decide ((↑a.length : Int) < (↑(List.map statD a).length : Int)) = false ∧ ((∃ (a_1 : Unit), resMb a = [] ∧ D.sl true [] = D.any) ∨ ∃ (a_1 : Stat × List Stat), resMb a = a_1.fst :: a_1.snd ∧ D.ms (0 : Nat) (0 : Nat) (List.map statD (a_1.fst :: a_1.snd)).length (List.map statD (a_1.fst :: a_1.snd)).length false = D.ms (0 : Nat) (0 : Nat) (List.map statD (y :: ys)).length (List.map statD (y :: ys)).length false ∧ (some (Ob.row St.own (21 : Nat) (List.map statD (a_1.fst :: a_1.snd))) = none ∨ some (Ob.row St.own (21 : Nat) (List.map statD (a_1.fst :: a_1.snd))) = some (Ob.row St.own (21 : Nat) (List.map statD (y :: ys))) ∧ (List.map statD (y :: ys)).all D.pure = true))) (by kernel_rfl) ?_
      exact ⟨by simp, .inr ⟨(y, ys), h2, rfl, .inr ⟨rfl, pure_statD _⟩⟩⟩
  | cons t r =>
    have hl : a.length + (r.length + 1) ≤ 1000 := by rw [← h1] at h3; simpa using h3
    have ht := h4 t (List.mem_cons_self ..)
    have h4' : ∀ x ∈ r, x.small := fun x hx => h4 x (List.mem_cons_of_mem _ hx)
    have hm : (List.map pairD t.mt).length * 32 ≤ 140737488355328 := by rw [List.length_map]; have := ht.2.2.1; omega
    have hall : (a ++ [t]) ++ r = all := by rw [← h1]; simp
    have hg : (List.map statD all)[((a.length : Int)).toNat]? = some (statD t) := by rw [← h1]; exact get_midI statD a t r
    have hll : ((a.length : Int) < ((List.map statD all).length : Int)) := by rw [← h1]; simp; omega
    have hix : D.int .i64 ((a ++ [t]).length : Int) = D.int .i64 ((a.length : Int) + 1) := by simp
    have hie : (List.map pairD t.mt).isEmpty = t.mt.isEmpty := List.isEmpty_map
    have hin : inK .i64 ((a.length : Int) + 1) := by simp only [inK]; omega
    cases u with
    | nil =>
      refine round0 (C := jCfg pkMbl [(11, .t)]) (ctrs_ok (pkMbl) rfl rfl) (by kernel_rfl) (by kernel_rfl) (q := decide ((↑a.length : Int) < (↑(List.map statD all).length : Int)) = true ∧ ∃ (y : Stat), (0 : Int) ≤ (↑a.length : Int) ∧ (List.map statD all)[(↑a.length : Int).toNat]? = some (D.agg [D.int IntKind.i64 y.id, D.str y.addr, D.int IntKind.i64 y.prio, D.str y.zone, D.int IntKind.i64 y.w, D.sl y.f (List.map pairD y.mt), D.bool y.up, D.int IntKind.i64 y.run, D.int IntKind.i64 y.forced, D.int IntKind.i64 y.wait, D.int IntKind.i64 y.errors, D.int IntKind.i64 y.bok, D.int IntKind.i64 y.ball, D.bool y.out, D.int IntKind.i64 y.frm, D.int IntKind.i64 y.till, D.int IntKind.i64 y.times, D.bool y.drains, D.int IntKind.i64 y.gone, D.int IntKind.i64 y.since, D.int IntKind.i64 y.active]) ∧ (∃ (t : Stat), D.agg [D.int IntKind.i64 y.id, D.str y.addr, D.int IntKind.i64 y.prio, D.str y.zone, D.int IntKind.i64 y.w, D.sl y.f (List.map pairD y.mt), D.bool y.up, D.int IntKind.i64 y.run, D.int IntKind.i64 y.forced, D.int IntKind.i64 y.wait, D.int IntKind.i64 y.errors, D.int IntKind.i64 y.bok, D.int IntKind.i64 y.ball, D.bool y.out, D.int IntKind.i64 y.frm, D.int IntKind.i64 y.till, D.int IntKind.i64 y.times, D.bool y.drains, D.int IntKind.i64 y.gone, D.int IntKind.i64 y.since, D.int IntKind.i64 y.active] = D.agg [D.int IntKind.i64 t.id, D.str t.addr, D.int IntKind.i64 t.prio, D.str t.zone, D.int IntKind.i64 t.w, D.sl t.f (List.map pairD t.mt), D.bool t.up, D.int IntKind.i64 t.run, D.int IntKind.i64 t.forced, D.int IntKind.i64 t.wait, D.int IntKind.i64 t.errors, D.int IntKind.i64 t.bok, D.int IntKind.i64 t.ball, D.bool t.out, D.int IntKind.i64 t.frm, D.int IntKind.i64 t.till, D.int IntKind.i64 t.times, D.bool t.drains, D.int IntKind.i64 t.gone, D.int IntKind.i64 t.since, D.int IntKind.i64 t.active]) ∧ ((!y.drains) = true → ((List.map pairD y.mt).all D.pure = true ∧ (List.map pairD y.mt).all (okEl (2 : Nat)) = true ∧ (List.map pairD y.mt).length * (32 : Nat) ≤ (140737488355328 : Nat)) ∧ inK IntKind.i64 ((↑a.length : Int) + (1 : Int)) ∧ ((∃ (s' : List Stat × List Stat × List Stat), (s'.fst ++ s'.snd.fst = all ∧ resMb s'.fst = s'.snd.snd ∧ all.length ≤ (1000 : Nat) ∧ ∀ (t : Stat), List.Mem t s'.snd.fst → t.small) ∧ s'.snd.fst.length.succ ≤ (t :: r).length ∧ resMb all = resMb all ∧ (D.fn (119 : Nat) [] [] = D.fn (119 : Nat) [] [] ∧ outD (0 : Nat) (List.map statD s'.snd.snd) = D.any ∧ D.sl f (List.map statD all) = D.sl f (List.map statD all) ∧ D.int IntKind.i64 (↑(List.map statD all).length : Int) = D.int IntKind.i64 (↑(List.map statD all).length : Int) ∧ D.int IntKind.i64 (↑s'.fst.length : Int) = D.int IntKind.i64 ((↑a.length : Int) + (1 : Int))) ∧ (outO (21 : Nat) (List.map statD s'.snd.snd) = none ∨ outO (21 : Nat) (List.map statD s'.snd.snd) = none ∧ False)) ∨ ∃ (s' : List Stat × List Stat × List Stat), (s'.fst ++ s'.snd.fst = all ∧ resMb s'.fst = s'.snd.snd ∧ all.length ≤ (1000 : Nat) ∧ ∀ (t : Stat), List.Mem t s'.snd.fst → t.small) ∧ s'.snd.fst.length.succ ≤ (t :: r).length ∧ resMb all = resMb all ∧ (D.fn (119 : Nat) [] [] = D.fn (119 : Nat) [] [] ∧ outD (0 : Nat) (List.map statD s'.snd.snd) = D.ms (0 : Nat) (0 : Nat) (1 : Nat) (1 : Nat) false ∧ D.sl f (List.map statD all) = D.sl f (List.map statD all) ∧ D.int IntKind.i64 (↑(List.map statD all).length : Int) = D.int IntKind.i64 (↑(List.map statD all).length : Int) ∧ D.int IntKind.i64 (↑s'.fst.length : Int) = D.int IntKind.i64 ((↑a.length : Int) + (1 : Int))) ∧ (outO (21 : Nat) (List.map statD s'.snd.snd) = none ∨ outO (21 : Nat) (List.map statD s'.snd.snd) = some (Ob.row St.own (21 : Nat) [D.agg [D.int IntKind.i64 y.id, D.str y.addr, D.int IntKind.i64 y.prio, D.str y.zone, D.int IntKind.i64 y.w, D.sl (List.map pairD y.mt).isEmpty (List.map pairD y.mt), D.bool y.up, D.int IntKind.i64 y.run, D.int IntKind.i64 y.forced, D.int IntKind.i64 y.wait, D.int IntKind.i64 y.errors, D.int IntKind.i64 y.bok, D.int IntKind.i64 y.ball, D.bool y.out, D.int IntKind.i64 y.frm, D.int IntKind.i64 y.till, D.int IntKind.i64 y.times, D.bool y.drains, D.int IntKind.i64 y.gone, D.int IntKind.i64 y.since, D.int IntKind.i64 y.active]]) ∧ true = true))) ∧ ((!y.drains) = false → inK IntKind.i64 ((↑a.length : Int) + (1 : Int)) ∧ ((∃ (s' : List Stat × List Stat × List Stat), (s'.fst ++ s'.snd.fst = all ∧ resMb s'.fst = s'.snd.snd ∧ all.length ≤ (1000 : Nat) ∧ ∀ (t : Stat), List.Mem t s'.snd.fst → t.small) ∧ s'.snd.fst.length.succ ≤ (t :: r).length ∧ resMb all = resMb all ∧ (D.fn (119 : Nat) [] [] = D.fn (119 : Nat) [] [] ∧ outD (0 : Nat) (List.map statD s'.snd.snd) = D.sl true [] ∧ D.sl f (List.map statD all) = D.sl f (List.map statD all) ∧ D.int IntKind.i64 (↑(List.map statD all).length : Int) = D.int IntKind.i64 (↑(List.map statD all).length : Int) ∧ D.int IntKind.i64 (↑s'.fst.length : Int) = D.int IntKind.i64 ((↑a.length : Int) + (1 : Int))) ∧ (outO (21 : Nat) (List.map statD s'.snd.snd) = none ∨ outO (21 : Nat) (List.map statD s'.snd.snd) = none ∧ False)) ∨ ∃ (s' : List Stat × List Stat × List Stat), (s'.fst ++ s'.snd.fst = all ∧ resMb s'.fst = s'.snd.snd ∧ all.length ≤ (1000 : Nat) ∧ ∀ (t : Stat), List.Mem t s'.snd.fst → t.small) ∧ s'.snd.fst.length.succ ≤ (t :: r).length ∧ resMb all = resMb all ∧ (D.fn (119 : Nat) [] [] = D.fn (119 : Nat) [] [] ∧ outD (0 : Nat) (List.map statD s'.snd.snd) = D.sl true [] ∧ D.sl f (List.map statD all) = D.sl f (List.map statD all) ∧ D.int IntKind.i64 (↑(List.map statD all).length : Int) = D.int IntKind.i64 (↑(List.map statD all).length : Int) ∧ D.int IntKind.i64 (↑s'.fst.length : Int) = D.int IntKind.i64 ((↑a.length : Int) + (1 : Int))) ∧ (outO (21 : Nat) (List.map statD s'.snd.snd) = none ∨ outO (21 : Nat) (List.map statD s'.snd.snd) = none ∧ False)))) (by kernel_rfl) ?_
      refine ⟨decide_eq_true hll, t, by omega, hg, ⟨t, rfl⟩, fun hb => ⟨⟨pure_pairD _, okEl_pairD _, hm⟩, hin, .inr ⟨(a ++ [t], r, [t.cp]), ⟨hall, by rw [resMb_yes hb, h2]; rfl, h3, h4'⟩, Nat.le_refl _, rfl, ?_, .inr ⟨by rw [hie]; rfl, rfl⟩⟩⟩, fun hb => ⟨hin, .inl ⟨(a ++ [t], r, []), ⟨hall, by rw [resMb_no hb, h2], h3, h4'⟩, Nat.le_refl _, rfl, ?_, .inl rfl⟩⟩⟩
      all_goals repeat' apply And.intro
      all_goals first
        | rfl
        | exact hix
    | cons y ys =>
      refine round0 (C := jCfg pkMbl [(11, .t)]) (ctrs_ok (pkMbl) rfl rfl) (by kernel_rfl) (by kernel_rfl) (q := decide ((↑a.length : Int) < (↑(List.map statD all).length : Int)) = true ∧ ∃ (y_1 : Stat), (0 : Int) ≤ (↑a.length : Int) ∧ (List.map statD all)[(↑a.length : Int).toNat]? = some (D.agg [D.int IntKind.i64 y_1.id, D.str y_1.addr, D.int IntKind.i64 y_1.prio, D.str y_1.zone, D.int IntKind.i64 y_1.w, D.sl y_1.f (List.map pairD y_1.mt), D.bool y_1.up, D.int IntKind.i64 y_1.run, D.int IntKind.i64 y_1.forced, D.int IntKind.i64 y_1.wait, D.int IntKind.i64 y_1.errors, D.int IntKind.i64 y_1.bok, D.int IntKind.i64 y_1.ball, D.bool y_1.out, D.int IntKind.i64 y_1.frm, D.int IntKind.i64 y_1.till, D.int IntKind.i64 y_1.times, D.bool y_1.drains, D.int IntKind.i64 y_1.gone, D.int IntKind.i64 y_1.since, D.int IntKind.i64 y_1.active]) ∧ (∃ (t : Stat), D.agg [D.int IntKind.i64 y_1.id, D.str y_1.addr, D.int IntKind.i64 y_1.prio, D.str y_1.zone, D.int IntKind.i64 y_1.w, D.sl y_1.f (List.map pairD y_1.mt), D.bool y_1.up, D.int IntKind.i64 y_1.run, D.int IntKind.i64 y_1.forced, D.int IntKind.i64 y_1.wait, D.int IntKind.i64 y_1.errors, D.int IntKind.i64 y_1.bok, D.int IntKind.i64 y_1.ball, D.bool y_1.out, D.int IntKind.i64 y_1.frm, D.int IntKind.i64 y_1.till, D.int IntKind.i64 y_1.times, D.bool y_1.drains, D.int IntKind.i64 y_1.gone, D.int IntKind.i64 y_1.since, D.int IntKind.i64 y_1.active] = D.agg [D.int IntKind.i64 t.id, D.str t.addr, D.int IntKind.i64 t.prio, D.str t.zone, D.int IntKind.i64 t.w, D.sl t.f (List.map pairD t.mt), D.bool t.up, D.int IntKind.i64 t.run, D.int IntKind.i64 t.forced, D.int IntKind.i64 t.wait, D.int IntKind.i64 t.errors, D.int IntKind.i64 t.bok, D.int IntKind.i64 t.ball, D.bool t.out, D.int IntKind.i64 t.frm, D.int IntKind.i64 t.till, D.int IntKind.i64 t.times, D.bool t.drains, D.int IntKind.i64 t.gone, D.int IntKind.i64 t.since, D.int IntKind.i64 t.active]) ∧ ((!y_1.drains) = true → ((List.map pairD y_1.mt).all D.pure = true ∧ (List.map pairD y_1.mt).all (okEl (2 : Nat)) = true ∧ (List.map pairD y_1.mt).length * (32 : Nat) ≤ (140737488355328 : Nat)) ∧ (0 : Nat) + (List.map statD (y :: ys)).length ≤ (List.map statD (y :: ys)).length ∧ (List.map statD (y :: ys)).length ≤ (List.map statD (y :: ys)).length ∧ ((List.map statD (y :: ys)).length + (1 : Nat)) * (200 : Nat) ≤ (140737488355328 : Nat) ∧ (List.map statD (y :: ys)).length.succ ≤ (List.map statD (y :: ys)).length + (1 : Nat) ∧ (0 : Nat) = (0 : Nat) ∧ inK IntKind.i64 ((↑a.length : Int) + (1 : Int)) ∧ ((∃ (s' : List Stat × List Stat × List Stat), (s'.fst ++ s'.snd.fst = all ∧ resMb s'.fst = s'.snd.snd ∧ all.length ≤ (1000 : Nat) ∧ ∀ (t : Stat), List.Mem t s'.snd.fst → t.small) ∧ s'.snd.fst.length.succ ≤ (t :: r).length ∧ resMb all = resMb all ∧ (D.fn (119 : Nat) [] [] = D.fn (119 : Nat) [] [] ∧ outD (0 : Nat) (List.map statD s'.snd.snd) = D.any ∧ D.sl f (List.map statD all) = D.sl f (List.map statD all) ∧ D.int IntKind.i64 (↑(List.map statD all).length : Int) = D.int IntKind.i64 (↑(List.map statD all).length : Int) ∧ D.int IntKind.i64 (↑s'.fst.length : Int) = D.int IntKind.i64 ((↑a.length : Int) + (1 : Int))) ∧ (outO (21 : Nat) (List.map statD s'.snd.snd) = none ∨ outO (21 : Nat) (List.map statD s'.snd.snd) = none ∧ False)) ∨ ∃ (s' : List Stat × List Stat × List Stat), (s'.fst ++ s'.snd.fst = all ∧ resMb s'.fst = s'.snd.snd ∧ all.length ≤ (1000 : Nat) ∧ ∀ (t : Stat), List.Mem t s'.snd.fst → t.small) ∧ s'.snd.fst.length.succ ≤ (t :: r).length ∧ resMb all = resMb all ∧ (D.fn (119 : Nat) [] [] = D.fn (119 : Nat) [] [] ∧ outD (0 : Nat) (List.map statD s'.snd.snd) = D.ms (0 : Nat) (0 : Nat) ((List.map statD (y :: ys)).length + (1 : Nat)) ((List.map statD (y :: ys)).length + (1 : Nat)) false ∧ D.sl f (List.map statD all) = D.sl f (List.map statD all) ∧ D.int IntKind.i64 (↑(List.map statD all).length : Int) = D.int IntKind.i64 (↑(List.map statD all).length : Int) ∧ D.int IntKind.i64 (↑s'.fst.length : Int) = D.int IntKind.i64 ((↑a.length : Int) + (1 : Int))) ∧ (outO (21 : Nat) (List.map statD s'.snd.snd) = none ∨ outO (21 : Nat) (List.map statD s'.snd.snd) = some (Ob.row St.own (21 : Nat) (List.take (List.map statD (y :: ys)).length (List.map statD (y :: ys)) ++ [D.agg [D.int IntKind.i64 y_1.id, D.str y_1.addr, D.int IntKind.i64 y_1.prio, D.str y_1.zone, D.int IntKind.i64 y_1.w, D.sl (List.map pairD y_1.mt).isEmpty (List.map pairD y_1.mt), D.bool y_1.up, D.int IntKind.i64 y_1.run, D.int IntKind.i64 y_1.forced, D.int IntKind.i64 y_1.wait, D.int IntKind.i64 y_1.errors, D.int IntKind.i64 y_1.bok, D.int IntKind.i64 y_1.ball, D.bool y_1.out, D.int IntKind.i64 y_1.frm, D.int IntKind.i64 y_1.till, D.int IntKind.i64 y_1.times, D.bool y_1.drains, D.int IntKind.i64 y_1.gone, D.int IntKind.i64 y_1.since, D.int IntKind.i64 y_1.active]])) ∧ (List.take (List.map statD (y :: ys)).length (List.map statD (y :: ys)) ++ [D.agg [D.int IntKind.i64 y_1.id, D.str y_1.addr, D.int IntKind.i64 y_1.prio, D.str y_1.zone, D.int IntKind.i64 y_1.w, D.sl (List.map pairD y_1.mt).isEmpty (List.map pairD y_1.mt), D.bool y_1.up, D.int IntKind.i64 y_1.run, D.int IntKind.i64 y_1.forced, D.int IntKind.i64 y_1.wait, D.int IntKind.i64 y_1.errors, D.int IntKind.i64 y_1.bok, D.int IntKind.i64 y_1.ball, D.bool y_1.out, D.int IntKind.i64 y_1.frm, D.int IntKind.i64 y_1.till, D.int IntKind.i64 y_1.times, D.bool y_1.drains, D.int IntKind.i64 y_1.gone, D.int IntKind.i64 y_1.since, D.int IntKind.i64 y_1.active]]).all D.pure = true))) ∧ ((!y_1.drains) = false → inK IntKind.i64 ((↑a.length : Int) + (1 : Int)) ∧ ((∃ (s' : List Stat × List Stat × List Stat), (s'.fst ++ s'.snd.fst = all ∧ resMb s'.fst = s'.snd.snd ∧ all.length ≤ (1000 : Nat) ∧ ∀ (t : Stat), List.Mem t s'.snd.fst → t.small) ∧ s'.snd.fst.length.succ ≤ (t :: r).length ∧ resMb all = resMb all ∧ (D.fn (119 : Nat) [] [] = D.fn (119 : Nat) [] [] ∧ outD (0 : Nat) (List.map statD s'.snd.snd) = D.ms (0 : Nat) (0 : Nat) (List.map statD (y :: ys)).length (List.map statD (y :: ys)).length false ∧ D.sl f (List.map statD all) = D.sl f (List.map statD all) ∧ D.int IntKind.i64 (↑(List.map statD all).length : Int) = D.int IntKind.i64 (↑(List.map statD all).length : Int) ∧ D.int IntKind.i64 (↑s'.fst.length : Int) = D.int IntKind.i64 ((↑a.length : Int) + (1 : Int))) ∧ (outO (21 : Nat) (List.map statD s'.snd.snd) = none ∨ outO (21 : Nat) (List.map statD s'.snd.snd) = some (Ob.row St.own (21 : Nat) (List.map statD (y :: ys))) ∧ (List.map statD (y :: ys)).all D.pure = true)) ∨ ∃ (s' : List Stat × List Stat × List Stat), (s'.fst ++ s'.snd.fst = all ∧ resMb s'.fst = s'.snd.snd ∧ all.length ≤ (1000 : Nat) ∧ ∀ (t : Stat), List.Mem t s'.snd.fst → t.small) ∧ s'.snd.fst.length.succ ≤ (t :: r).length ∧ resMb all = resMb all ∧ (D.fn (119 : Nat) [] [] = D.fn (119 : Nat) [] [] ∧ outD (0 : Nat) (List.map statD s'.snd.snd) = D.any ∧ D.sl f (List.map statD all) = D.sl f (List.map statD all) ∧ D.int IntKind.i64 (↑(List.map statD all).length : Int) = D.int IntKind.i64 (↑(List.map statD all).length : Int) ∧ D.int IntKind.i64 (↑s'.fst.length : Int) = D.int IntKind.i64 ((↑a.length : Int) + (1 : Int))) ∧ (outO (21 : Nat) (List.map statD s'.snd.snd) = none ∨ outO (21 : Nat) (List.map statD s'.snd.snd) = none ∧ False)))) (by kernel_rfl) ?_
      have hyl : (List.map statD (y :: ys)).length ≤ 1000 := by rw [List.length_map, ← h2]; have := resMb_len a; omega
      have he : List.map statD (y :: ys ++ [t.cp]) = List.map statD (y :: ys) ++ [statD t.cp] := List.map_append
      have ho1 : outD 0 (List.map statD (y :: ys ++ [t.cp])) = .ms 0 0 ((List.map statD (y :: ys)).length + 1) ((List.map statD (y :: ys)).length + 1) false := by
        rw [he, outD_snoc]
      have ho2 : outO 21 (List.map statD (y :: ys ++ [t.cp])) = some (.row .own 21 (List.take (List.map statD (y :: ys)).length (List.map statD (y :: ys)) ++ [statD t.cp])) := by
        rw [he, outO_snoc, List.take_length]
      have hq : (List.take (List.map statD (y :: ys)).length (List.map statD (y :: ys)) ++ [statD t.cp]).all D.pure = true := by
        rw [List.take_length, List.all_append, pure_statD]; rfl
      refine ⟨decide_eq_true hll, t, by omega, hg, ⟨t, rfl⟩, fun hb => ⟨⟨pure_pairD _, okEl_pairD _, hm⟩, by omega, Nat.le_refl _, by omega, Nat.le_refl _, rfl, hin, .inr ⟨(a ++ [t], r, y :: ys ++ [t.cp]), ⟨hall, by rw [resMb_yes hb, h2], h3, h4'⟩, Nat.le_refl _, rfl, ?_, .inr ⟨by rw [hie]; exact ho2, by rw [hie]; exact hq⟩⟩⟩, fun hb => ⟨hin, .inl ⟨(a ++ [t], r, y :: ys), ⟨hall, by rw [resMb_no hb, h2], h3, h4'⟩, Nat.le_refl _, rfl, ?_, .inr ⟨rfl, pure_statD _⟩⟩⟩⟩
      all_goals repeat' apply And.intro
      all_goals first
        | rfl
        | exact hix
        | exact ho1
noncomputable def pkMbg (f : Bool) (l : List Stat) : WCfg := { jCfg pkMbl [] with loops := fun k => match k with | 3 => some ((pkMb f l).row [(0, true)]) | _ => none }
theorem pkMbT (f : Bool) (l : List Stat) (h1 : l.length ≤ 1000) (h2 : ∀ t ∈ l, t.small) : ∃ (b : List Stat × List Stat × List Stat), (b.fst ++ b.snd.fst = l ∧ resMb b.fst = b.snd.snd ∧ l.length ≤ (1000 : Nat) ∧ ∀ (t : Stat), List.Mem t b.snd.fst → t.small) ∧ ((D.fn (119 : Nat) [] [] = D.fn (119 : Nat) [] [] ∧ outD (0 : Nat) (List.map statD b.snd.snd) = D.sl true [] ∧ D.sl f (List.map statD l) = D.sl f (List.map statD l) ∧ D.int IntKind.i64 (↑(List.map statD l).length : Int) = D.int IntKind.i64 (↑(List.map statD l).length : Int) ∧ D.int IntKind.i64 (↑b.fst.length : Int) = D.int IntKind.i64 (0 : Int)) ∧ (outO (21 : Nat) (List.map statD b.snd.snd) = none ∨ outO (21 : Nat) (List.map statD b.snd.snd) = none ∧ False)) ∧ (∀ (a : Unit), resMb l = [] → D.sl true [] = D.sl (resMb l).isEmpty (List.map statD (resMb l))) ∧ ∀ (a : Stat × List Stat), resMb l = a.fst :: a.snd → (0 : Nat) + (List.map statD (a.fst :: a.snd)).length ≤ (List.map statD (a.fst :: a.snd)).length ∧ (List.take (List.map statD (a.fst :: a.snd)).length (List.drop (0 : Nat) (List.map statD (a.fst :: a.snd)))).all D.pure = true ∧ D.sl false (List.take (List.map statD (a.fst :: a.snd)).length (List.drop (0 : Nat) (List.map statD (a.fst :: a.snd)))) = D.sl (resMb l).isEmpty (List.map statD (resMb l)) := by
  refine ⟨([], l, []), ⟨rfl, rfl, h1, h2⟩, ⟨?_, .inl rfl⟩, fun _ h => by rw [h]; rfl, fun a h => ?_⟩
  · repeat' apply And.intro
    all_goals rfl
  · rw [h, List.drop_zero, List.take_length]
    exact ⟨by omega, pure_statD _, rfl⟩
def pkMbS (vs : List D) : Option DOut := match vs with | [.sl f xs, .fn 119 [] []] => some ⟨∃ l : List Stat, xs = l.map statD ∧ l.length ≤ 1000 ∧ ∀ t ∈ l, t.small, .sl (resMb (xs.map dStat)).isEmpty ((resMb (xs.map dStat)).map statD)⟩ | _ => none
def pkMbC : Ctr := ⟨90, pkMbS, by
  intro vs o ho hp
  unfold pkMbS at ho
  split at ho
  · rename_i f xs
    injection ho with ho; subst ho
    obtain ⟨l, rfl, h1, h2⟩ := hp
    simp only [map_dStat]
    refine dataFunL (C := pkMbg f l) (ctrs_ok pkMbl rfl rfl) rfl Try.func90 (by kernel_rfl) (l := [lp Try.f90 3]) (by kernel_rfl) ?_ (by kernel_rfl) (by kernel_rfl) (by kernel_rfl) (pkMbT f l h1 h2)
    intro x hx
    rw [List.mem_singleton.1 hx]
    exact (pkMb f l).fits 3 [(0, true)] (by kernel_rfl) rfl (pkMbR f l)
  · cases ho⟩


def stCpS (vs : List D) : Option DOut := match vs with | [.sl f xs] => some ⟨∃ l : List Stat, xs = l.map statD ∧ l.length ≤ 1000 ∧ ∀ t ∈ l, t.small, .sl (resCp (xs.map dStat)).isEmpty ((resCp (xs.map dStat)).map statD)⟩ | _ => none
theorem stCpT (f : Bool) (l : List Stat) (h1 : l.length ≤ 1000) (h2 : ∀ t ∈ l, t.small) : (∃ (l_1 : List Stat), List.map statD l = List.map statD l_1 ∧ l_1.length ≤ (1000 : Nat) ∧ ∀ (t : Stat), List.Mem t l_1 → t.small) ∧ D.sl (resCp (List.map dStat (List.map statD l))).isEmpty (List.map statD (resCp (List.map dStat (List.map statD l)))) = D.sl (resCp l).isEmpty (List.map statD (resCp l)) := by
  rw [map_dStat]
  exact ⟨⟨l, rfl, h1, h2⟩, rfl⟩
def stCpC : Ctr := ⟨55, stCpS, by
  intro vs o ho hp
  unfold stCpS at ho
  split at ho
  · rename_i f xs
    injection ho with ho; subst ho
    obtain ⟨l, rfl, h1, h2⟩ := hp
    simp only [map_dStat]
    exact dataFun0 (C := jCfg [pkCpC] []) (ctrs_ok [pkCpC] rfl rfl) rfl Try.func55 (by kernel_rfl) (by kernel_rfl) (by kernel_rfl) (by kernel_rfl) (by kernel_rfl) (stCpT f l h1 h2)
  · cases ho⟩

def stMbS (vs : List D) : Option DOut := match vs with | [.sl f xs] => some ⟨∃ l : List Stat, xs = l.map statD ∧ l.length ≤ 1000 ∧ ∀ t ∈ l, t.small, .sl (resMb (xs.map dStat)).isEmpty ((resMb (xs.map dStat)).map statD)⟩ | _ => none
theorem stMbT (f : Bool) (l : List Stat) (h1 : l.length ≤ 1000) (h2 : ∀ t ∈ l, t.small) : (∃ (l_1 : List Stat), List.map statD l = List.map statD l_1 ∧ l_1.length ≤ (1000 : Nat) ∧ ∀ (t : Stat), List.Mem t l_1 → t.small) ∧ D.sl (resMb (List.map dStat (List.map statD l))).isEmpty (List.map statD (resMb (List.map dStat (List.map statD l)))) = D.sl (resMb l).isEmpty (List.map statD (resMb l)) := by
  rw [map_dStat]
  exact ⟨⟨l, rfl, h1, h2⟩, rfl⟩
def stMbC : Ctr := ⟨98, stMbS, by
  intro vs o ho hp
  unfold stMbS at ho
  split at ho
  · rename_i f xs
    injection ho with ho; subst ho
    obtain ⟨l, rfl, h1, h2⟩ := hp
    simp only [map_dStat]
    exact dataFun0 (C := jCfg [pkMbC] []) (ctrs_ok [pkMbC] rfl rfl) rfl Try.func98 (by kernel_rfl) (by kernel_rfl) (by kernel_rfl) (by kernel_rfl) (by kernel_rfl) (stMbT f l h1 h2)
  · cases ho⟩
end Go.Proofs.Ytgibpomhiilehaa.Dv
