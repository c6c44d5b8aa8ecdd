/- SpreadEnough. -/
import Derived.Test.YtfclelafcdcilaaPM
set_option linter.unusedVariables false
set_option linter.unusedSimpArgs false
namespace Go.Proofs.Ytfclelafcdcilaa.Dv
open Go Go.Proofs
noncomputable def seC : List Ctr := [mayCfgC', mayC', enoughC', failC', badC, aw13]
noncomputable def seCfg0 (h : List (Nat × Hn)) : WCfg := rCfg seC h
def se7 (c : Cfg) (f : Bool) (all a : List Rtd) (x : Rtd) (g : Bool) : WLoop :=
  { St := List Rtd × List Rtd
    O := Bool
    T := fun s => [(1, .sl f (all.map rtD)), (2, .ptr 0 0 0), (6, .ptr 1 0 0), (23, .sl f (all.map rtD)), (24, .int .i64 (all.map rtD).length), (25, .int .i64 a.length), (32, .sl g (a.map rtD)), (33, .int .i64 (a.map rtD).length), (34, .int .i64 s.1.length)]
    S := fun s => [cRow c, some (.row .own 3 [rtD x])]
    ok := fun s => s.1 ++ s.2 = a ∧ a.length ≤ 500
    μ := fun s => s.2.length
    m := fun s => newR s.2 x
    src := [(0, true), (1, true)]
    outs := [{ α := Unit, is := fun o _ => o = true, ex := .exit 2, src := [(0, true), (1, true)], T := fun _ => [(1, .sl f (all.map rtD)), (2, .ptr 0 0 0), (6, .ptr 1 0 0), (23, .sl f (all.map rtD)), (24, .int .i64 (all.map rtD).length), (25, .int .i64 a.length)], S := fun _ => [cRow c, some (.row .own 3 [rtD x])] },
      { α := Unit, is := fun o _ => o = false, ex := .ret, T := fun _ => [(4, .bool true)] }] }
theorem se7R (c : Cfg) (f : Bool) (all a : List Rtd) (x : Rtd) (g : Bool) (s : (se7 c f all a x g).St) (hs : (se7 c f all a x g).ok s) : Tri Try.prog 0 110 (lp Try.f6 7) (tb ((se7 c f all a x g).T s)) ((se7 c f all a x g).S s) ((se7 c f all a x g).q 0 s) := by
  obtain ⟨b, r⟩ := s
  obtain ⟨h1, h2⟩ := hs
  simp only at h1
  have hA : (List.map rtD a).length = a.length := List.length_map ..
  cases r with
  | nil =>
    rw [List.append_nil] at h1
    subst h1
    refine round0 (C := seCfg0 [(35, .f)]) (ctrs_ok (seC) rfl rfl) (by kernel_rfl) (by kernel_rfl) (q := decide ((↑b.length : Int) < (↑(List.map rtD b).length : Int)) = false ∧ ∃ (a : Unit), true = true ∧ (D.sl f (List.map rtD all) = D.sl f (List.map rtD all) ∧ D.ptr (0 : Nat) (0 : Nat) (0 : Nat) = D.ptr (0 : Nat) (0 : Nat) (0 : Nat) ∧ D.ptr (1 : Nat) (0 : Nat) (0 : Nat) = D.ptr (1 : Nat) (0 : Nat) (0 : Nat) ∧ D.sl f (List.map rtD all) = D.sl f (List.map rtD all) ∧ D.int IntKind.i64 (↑(List.map rtD all).length : Int) = D.int IntKind.i64 (↑(List.map rtD all).length : Int) ∧ D.int IntKind.i64 (↑b.length : Int) = D.int IntKind.i64 (↑b.length : Int)) ∧ (some (Ob.row St.own (23 : Nat) [c.toD]) = none ∨ some (Ob.row St.own (23 : Nat) [c.toD]) = some (Ob.row St.own (23 : Nat) [c.toD]) ∧ true = true) ∧ (some (Ob.row St.own (3 : Nat) [D.agg [D.int IntKind.i64 x.fst, D.int IntKind.i64 x.snd.fst, D.int IntKind.i64 x.snd.snd]]) = none ∨ some (Ob.row St.own (3 : Nat) [D.agg [D.int IntKind.i64 x.fst, D.int IntKind.i64 x.snd.fst, D.int IntKind.i64 x.snd.snd]]) = some (Ob.row St.own (3 : Nat) [D.agg [D.int IntKind.i64 x.fst, D.int IntKind.i64 x.snd.fst, D.int IntKind.i64 x.snd.snd]]) ∧ true = true)) (by kernel_rfl) ?_
    exact ⟨decide_eq_false (by omega), (), rfl, ⟨rfl, rfl, rfl, rfl, rfl, rfl⟩, .inr ⟨rfl, rfl⟩, .inr ⟨rfl, rfl⟩⟩
  | cons y r =>
    have hal : b.length + (r.length + 1) = a.length := by rw [← h1]; simp
    have hg : (List.map rtD a)[((b.length : Int)).toNat]? = some (rtD y) := by rw [← h1]; exact get_midI rtD b y r
    have hix : D.int .i64 ((b ++ [y]).length : Int) = D.int .i64 ((b.length : Int) + 1) := by simp
    have hno : decide (x.1 = y.1) = true → newR (y :: r) x = false := fun h => by unfold newR; rw [List.all_cons, decide_eq_false (by simpa using h)]; rfl
    have hyes : decide (x.1 = y.1) = false → newR r x = newR (y :: r) x := fun h => by unfold newR; rw [List.all_cons, decide_eq_true (of_decide_eq_false h)]; rfl
    refine round0 (C := seCfg0 [(35, .t)]) (ctrs_ok (seC) rfl rfl) (by kernel_rfl) (by kernel_rfl) (q := decide ((↑b.length : Int) < (↑(List.map rtD a).length : Int)) = true ∧ ∃ (y_1 : Int × Int × Int), (0 : Int) ≤ (↑b.length : Int) ∧ (List.map rtD a)[(↑b.length : Int).toNat]? = some (D.agg [D.int IntKind.i64 y_1.fst, D.int IntKind.i64 y_1.snd.fst, D.int IntKind.i64 y_1.snd.snd]) ∧ (decide (x.fst = y_1.fst) = true → True ∧ ∃ (a : Unit), newR (y :: r) x = false ∧ D.bool true = D.bool true) ∧ (decide (x.fst = y_1.fst) = false → inK IntKind.i64 ((↑b.length : Int) + (1 : Int)) ∧ ∃ (s' : List Rtd × List Rtd), (s'.fst ++ s'.snd = a ∧ a.length ≤ (500 : Nat)) ∧ s'.snd.length.succ ≤ (y :: r).length ∧ newR s'.snd x = newR (y :: r) x ∧ (D.sl f (List.map rtD all) = D.sl f (List.map rtD all) ∧ D.ptr (0 : Nat) (0 : Nat) (0 : Nat) = D.ptr (0 : Nat) (0 : Nat) (0 : Nat) ∧ D.ptr (1 : Nat) (0 : Nat) (0 : Nat) = D.ptr (1 : Nat) (0 : Nat) (0 : Nat) ∧ D.sl f (List.map rtD all) = D.sl f (List.map rtD all) ∧ D.int IntKind.i64 (↑(List.map rtD all).length : Int) = D.int IntKind.i64 (↑(List.map rtD all).length : Int) ∧ D.int IntKind.i64 (↑a.length : Int) = D.int IntKind.i64 (↑a.length : Int) ∧ D.sl g (List.map rtD a) = D.sl g (List.map rtD a) ∧ D.int IntKind.i64 (↑(List.map rtD a).length : Int) = D.int IntKind.i64 (↑(List.map rtD a).length : Int) ∧ D.int IntKind.i64 (↑s'.fst.length : Int) = D.int IntKind.i64 ((↑b.length : Int) + (1 : Int))) ∧ (some (Ob.row St.own (23 : Nat) [c.toD]) = none ∨ some (Ob.row St.own (23 : Nat) [c.toD]) = some (Ob.row St.own (23 : Nat) [c.toD]) ∧ true = true) ∧ (some (Ob.row St.own (3 : Nat) [D.agg [D.int IntKind.i64 x.fst, D.int IntKind.i64 x.snd.fst, D.int IntKind.i64 x.snd.snd]]) = none ∨ some (Ob.row St.own (3 : Nat) [D.agg [D.int IntKind.i64 x.fst, D.int IntKind.i64 x.snd.fst, D.int IntKind.i64 x.snd.snd]]) = some (Ob.row St.own (3 : Nat) [D.agg [D.int IntKind.i64 x.fst, D.int IntKind.i64 x.snd.fst, D.int IntKind.i64 x.snd.snd]]) ∧ true = true))) (by kernel_rfl) ?_
    exact ⟨decide_eq_true (by omega), y, by omega, hg, fun h => ⟨trivial, (), hno h, rfl⟩, fun h => ⟨ink (by omega), (b ++ [y], r), ⟨by rw [← h1]; simp, h2⟩, Nat.le_refl _, hyes h, ⟨rfl, rfl, rfl, rfl, rfl, rfl, rfl, rfl, hix⟩, .inr ⟨rfl, rfl⟩, .inr ⟨rfl, rfl⟩⟩⟩
def se4 (c : Cfg) (f : Bool) (all : List Rtd) : WLoop :=
  { St := List Rtd × List Rtd
    O := Bool
    T := fun s => [(1, .sl f (all.map rtD)), (2, .ptr 0 0 0), (23, .sl f (all.map rtD)), (24, .int .i64 (all.map rtD).length), (25, .int .i64 s.1.length)]
    S := fun s => [cRow c]
    ok := fun s => s.1 ++ s.2 = all
    μ := fun s => s.2.length
    m := fun s => goodR s.1 s.2
    src := [(0, true)]
    outs := [{ α := Unit, is := fun o _ => o = true, ex := .exit 0, src := [(0, true)], T := fun _ => [(1, .sl f (all.map rtD)), (2, .ptr 0 0 0)], S := fun _ => [cRow c] },
      { α := Unit, is := fun o _ => o = false, ex := .ret, T := fun _ => [(4, .bool true)] }] }
noncomputable def se4Cfg (c : Cfg) (f : Bool) (all a : List Rtd) (x : Rtd) (g : Bool) : WCfg := { seCfg0 [(26, .t), (54, .t)] with loops := fun j => match j with | 7 => some ((se7 c f all a x g).row [(0, true), (1, true)]) | _ => none }
theorem se4R (c : Cfg) (f : Bool) (all : List Rtd) (hz : c.zone.size ≤ 9223372036854775807) (hl : all.length ≤ 64) (s : (se4 c f all).St) (hs : (se4 c f all).ok s) : Tri Try.prog 0 110 (lp Try.f6 4) (tb ((se4 c f all).T s)) ((se4 c f all).S s) ((se4 c f all).q 0 s) := by
  obtain ⟨a, r⟩ := s
  have h1 : a ++ r = all := hs
  have hA : (List.map rtD all).length = all.length := List.length_map ..
  cases r with
  | nil =>
    rw [List.append_nil] at h1
    subst h1
    refine round0 (C := { seCfg0 [(26, .f)] with unr := fun j => if j = 7 then 1 else 0 }) (ctrs_ok (seC) rfl rfl) (by kernel_rfl) (by kernel_rfl) (q := decide ((↑a.length : Int) < (↑(List.map rtD a).length : Int)) = false ∧ ∃ (a_1 : Unit), true = true ∧ (D.sl f (List.map rtD a) = D.sl f (List.map rtD a) ∧ D.ptr (0 : Nat) (0 : Nat) (0 : Nat) = D.ptr (0 : Nat) (0 : Nat) (0 : Nat)) ∧ (some (Ob.row St.own (23 : Nat) [c.toD]) = none ∨ some (Ob.row St.own (23 : Nat) [c.toD]) = some (Ob.row St.own (23 : Nat) [c.toD]) ∧ true = true)) (by kernel_rfl) ?_
    exact ⟨decide_eq_false (by omega), (), rfl, ⟨rfl, rfl⟩, .inr ⟨rfl, rfl⟩⟩
  | cons x r =>
    have hal : a.length + (r.length + 1) = all.length := by rw [← h1]; simp
    have hg : (List.map rtD all)[((a.length : Int)).toNat]? = some (rtD x) := by rw [← h1]; exact get_midI rtD a x r
    have hix : D.int .i64 ((a ++ [x]).length : Int) = D.int .i64 ((a.length : Int) + 1) := by simp
    have hin : inK .i64 ((a.length : Int) + 1) := by simp only [inK]; omega
    have hok : (a ++ [x]) ++ r = all := by rw [← h1]; simp
    have hs : (ti Try.prog 39).sz = 3 := by kernel_rfl
    have hsl : List.drop 0 (List.take ((a.length : Int)).toNat (List.map rtD all)) = List.map rtD a := by
      rw [List.drop_zero, Int.toNat_natCast, ← List.map_take, ← h1, List.take_left' rfl]
    have hcells : (List.drop 0 (List.take ((a.length : Int)).toNat (List.map rtD all))).all (fun y => y.cells.length == (ti Try.prog 39).sz) = true := by
      rw [hsl, hs, List.all_eq_true]; intro z hz; obtain ⟨w, _, rfl⟩ := List.mem_map.1 hz; rfl
    have e1 : goodR a (x :: r) = (newR a x && (rMay x && goodR (a ++ [x]) r)) := rfl
    have hb1 : newR a x = false → goodR a (x :: r) = false := fun h => by rw [e1, h]; rfl
    have hb2 : (!mayB x.2.1 x.2.2) = true → goodR a (x :: r) = false := fun h => by rw [e1, show rMay x = false from (Bool.not_eq_true' _).mp h, Bool.false_and, Bool.and_false]
    have hgd : newR a x = true → (!mayB x.2.1 x.2.2) = false → goodR (a ++ [x]) r = goodR a (x :: r) := fun h h' => by rw [e1, h, show rMay x = true from (show mayB x.2.1 x.2.2 = true by simpa using h')]; rfl
    have hno : (!mayB x.2.1 x.2.2) = true → badV c all = [] := fun h => if_neg fun hh => by
      have := ((mayM_iff all).1 hh.2).1 x (by rw [← h1]; simp)
      rw [this] at h; cases h
    refine roundL (C := se4Cfg c f all a x (f && decide (((a.length : Int)).toNat = (all.map rtD).length))) (ctrs_ok (seC) rfl rfl) (by kernel_rfl) (l := [lp Try.f6 7]) (by kernel_rfl) ?_ (q := decide ((↑a.length : Int) < (↑(List.map rtD all).length : Int)) = true ∧ ∃ (y : Int × Int × Int), (0 : Int) ≤ (↑a.length : Int) ∧ (List.map rtD all)[(↑a.length : Int).toNat]? = some (D.agg [D.int IntKind.i64 y.fst, D.int IntKind.i64 y.snd.fst, D.int IntKind.i64 y.snd.snd]) ∧ (0 : Int) ≤ (↑a.length : Int) ∧ (0 : Nat) ≤ (↑a.length : Int).toNat ∧ (↑a.length : Int).toNat ≤ (List.map rtD all).length ∧ ((List.drop (0 : Nat) (List.take (↑a.length : Int).toNat (List.map rtD all))).all fun (y : D) => y.cells.length == (ti Try.prog (39 : Nat)).sz) = true ∧ ∃ (b : List Rtd × List Rtd), (b.fst ++ b.snd = a ∧ a.length ≤ (500 : Nat)) ∧ ((D.sl f (List.map rtD all) = D.sl f (List.map rtD all) ∧ D.ptr (0 : Nat) (0 : Nat) (0 : Nat) = D.ptr (0 : Nat) (0 : Nat) (0 : Nat) ∧ D.ptr (1 : Nat) (0 : Nat) (0 : Nat) = D.ptr (1 : Nat) (0 : Nat) (0 : Nat) ∧ D.sl f (List.map rtD all) = D.sl f (List.map rtD all) ∧ D.int IntKind.i64 (↑(List.map rtD all).length : Int) = D.int IntKind.i64 (↑(List.map rtD all).length : Int) ∧ D.int IntKind.i64 (↑a.length : Int) = D.int IntKind.i64 (↑a.length : Int) ∧ D.sl (f && decide ((↑a.length : Int).toNat = (List.map rtD all).length)) (List.map rtD a) = D.sl (f && decide ((↑a.length : Int).toNat = (List.map rtD all).length)) (List.drop (0 : Nat) (List.take (↑a.length : Int).toNat (List.map rtD all))) ∧ D.int IntKind.i64 (↑(List.map rtD a).length : Int) = D.int IntKind.i64 (↑(List.drop (0 : Nat) (List.take (↑a.length : Int).toNat (List.map rtD all))).length : Int) ∧ D.int IntKind.i64 (↑b.fst.length : Int) = D.int IntKind.i64 (0 : Int)) ∧ (some (Ob.row St.own (23 : Nat) [c.toD]) = none ∨ some (Ob.row St.own (23 : Nat) [c.toD]) = some (Ob.row St.own (23 : Nat) [c.toD]) ∧ true = true) ∧ (some (Ob.row St.own (3 : Nat) [D.agg [D.int IntKind.i64 x.fst, D.int IntKind.i64 x.snd.fst, D.int IntKind.i64 x.snd.snd]]) = none ∨ some (Ob.row St.own (3 : Nat) [D.agg [D.int IntKind.i64 x.fst, D.int IntKind.i64 x.snd.fst, D.int IntKind.i64 x.snd.snd]]) = some (Ob.row St.own (3 : Nat) [D.agg [D.int IntKind.i64 y.fst, D.int IntKind.i64 y.snd.fst, D.int IntKind.i64 y.snd.snd]]) ∧ true = true)) ∧ (∀ (a_1 : Unit), newR b.snd x = true → True ∧ ((!mayB x.snd.fst x.snd.snd) = true → ((c.toD = c.toD ∧ c.zone.size ≤ (9223372036854775807 : Nat)) ∧ ∃ (l : List Rtd), List.map rtD all = List.map rtD l ∧ l.length ≤ (500 : Nat)) ∧ decide ((↑(List.map iD (badV c (List.map dRt (List.map rtD all)))).length : Int) = (0 : Int)) = true ∧ True ∧ ∃ (a_4 : Unit), goodR a (x :: r) = false ∧ D.bool true = D.bool true) ∧ ((!mayB x.snd.fst x.snd.snd) = false → inK IntKind.i64 ((↑a.length : Int) + (1 : Int)) ∧ ∃ (s' : List Rtd × List Rtd), s'.fst ++ s'.snd = all ∧ s'.snd.length.succ ≤ (x :: r).length ∧ goodR s'.fst s'.snd = goodR a (x :: r) ∧ (D.sl f (List.map rtD all) = D.sl f (List.map rtD all) ∧ D.ptr (0 : Nat) (0 : Nat) (0 : Nat) = D.ptr (0 : Nat) (0 : Nat) (0 : Nat) ∧ D.sl f (List.map rtD all) = D.sl f (List.map rtD all) ∧ D.int IntKind.i64 (↑(List.map rtD all).length : Int) = D.int IntKind.i64 (↑(List.map rtD all).length : Int) ∧ D.int IntKind.i64 (↑s'.fst.length : Int) = D.int IntKind.i64 ((↑a.length : Int) + (1 : Int))) ∧ (some (Ob.row St.own (23 : Nat) [c.toD]) = none ∨ some (Ob.row St.own (23 : Nat) [c.toD]) = some (Ob.row St.own (23 : Nat) [c.toD]) ∧ true = true))) ∧ ∀ (a_1 : Unit), newR b.snd x = false → ∃ (a_3 : Unit), goodR a (x :: r) = false ∧ D.bool true = D.bool true) (by kernel_rfl) ?_
    · intro z hz
      rw [List.mem_singleton.1 hz]
      exact (se7 c f all a x _).fits 7 [(0, true), (1, true)] (by kernel_rfl) rfl (se7R c f all a x _)
    refine ⟨decide_eq_true (by omega), x, by omega, hg, by omega, by omega, by omega, hcells, ([], a), ⟨rfl, by omega⟩, ⟨⟨rfl, rfl, rfl, rfl, rfl, rfl, by rw [hsl], by rw [hsl], rfl⟩, .inr ⟨rfl, rfl⟩, .inr ⟨rfl, rfl⟩⟩, fun _ hn => ⟨trivial, fun hm => ⟨⟨⟨rfl, hz⟩, all, rfl, by omega⟩, ?_, trivial, (), hb2 hm, rfl⟩, fun hm => ⟨hin, (a ++ [x], r), hok, Nat.le_refl _, hgd hn hm, ⟨rfl, rfl, rfl, rfl, hix⟩, .inr ⟨rfl, rfl⟩⟩⟩, fun _ hn => ⟨(), hb1 hn, rfl⟩⟩
    rw [map_dRt, hno hm]; rfl
def faiB (c : Cfg) (l : List Rtd) : List Rtd := (enB c l).filter fun x => failB x.2.1 x.2.2 c.fails
def se17 (c : Cfg) (f : Bool) (all : List Rtd) : WLoop :=
  { St := List Rtd × List Rtd
    O := Unit
    T := fun s => [(1, .sl f (all.map rtD)), (2, .ptr 0 0 0), (9, .int .i64 (enB c s.1).length), (10, .int .i64 (faiB c s.1).length), (58, .sl f (all.map rtD)), (59, .int .i64 (all.map rtD).length), (60, .int .i64 s.1.length)]
    S := fun s => [cRow c]
    ok := fun s => s.1 ++ s.2 = all
    μ := fun s => s.2.length
    m := fun s => ()
    src := [(0, true)]
    outs := [{ α := Unit, is := fun _ _ => True, ex := .exit 4, src := [(0, true)], T := fun _ => [(1, .sl f (all.map rtD)), (2, .ptr 0 0 0), (9, .int .i64 (enB c all).length), (10, .int .i64 (faiB c all).length)], S := fun _ => [cRow c] }] }
theorem se17R (c : Cfg) (f : Bool) (all : List Rtd) (hl : all.length ≤ 64) (hm : ∀ x ∈ all, rMay x = true) (hc : rI c.fails) (s : (se17 c f all).St) (hs : (se17 c f all).ok s) : Tri Try.prog 0 110 (lp Try.f6 17) (tb ((se17 c f all).T s)) ((se17 c f all).S s) ((se17 c f all).q 0 s) := by
  obtain ⟨a, r⟩ := s
  have h1 : a ++ r = all := hs
  have hA : (List.map rtD all).length = all.length := List.length_map ..
  cases r with
  | nil =>
    rw [List.append_nil] at h1
    subst h1
    refine round0 (C := seCfg0 [(61, .f)]) (ctrs_ok (seC) rfl rfl) (by kernel_rfl) (by kernel_rfl) (q := decide ((↑a.length : Int) < (↑(List.map rtD a).length : Int)) = false ∧ ∃ (a_1 : Unit), True ∧ (D.sl f (List.map rtD a) = D.sl f (List.map rtD a) ∧ D.ptr (0 : Nat) (0 : Nat) (0 : Nat) = D.ptr (0 : Nat) (0 : Nat) (0 : Nat) ∧ D.int IntKind.i64 (↑(enB c a).length : Int) = D.int IntKind.i64 (↑(enB c a).length : Int) ∧ D.int IntKind.i64 (↑(faiB c a).length : Int) = D.int IntKind.i64 (↑(faiB c a).length : Int)) ∧ (some (Ob.row St.own (23 : Nat) [c.toD]) = none ∨ some (Ob.row St.own (23 : Nat) [c.toD]) = some (Ob.row St.own (23 : Nat) [c.toD]) ∧ true = true)) (by kernel_rfl) ?_
    exact ⟨decide_eq_false (by omega), (), trivial, ⟨rfl, rfl, rfl, rfl⟩, .inr ⟨rfl, rfl⟩⟩
  | cons x r =>
    have hal : a.length + (r.length + 1) = all.length := by rw [← h1]; simp
    have hg : (List.map rtD all)[((a.length : Int)).toNat]? = some (rtD x) := by rw [← h1]; exact get_midI rtD a x r
    have hix : D.int .i64 ((a ++ [x]).length : Int) = D.int .i64 ((a.length : Int) + 1) := by simp
    have hin : inK .i64 ((a.length : Int) + 1) := by simp only [inK]; omega
    have hok : (a ++ [x]) ++ r = all := by rw [← h1]; simp
    have hx := b_rt (hm x (by rw [← h1]; simp))
    have n1 : (enB c a).length ≤ a.length := by unfold enB; exact List.length_filter_le _ _
    have n2 : (faiB c a).length ≤ (enB c a).length := by unfold faiB; exact List.length_filter_le _ _
    have eY : enoughB x.2.1 x.2.2 c.requests = true → enB c (a ++ [x]) = enB c a ++ [x] := fun h => by unfold enB; simp [List.filter_append, List.filter_cons, h]
    have eN : enoughB x.2.1 x.2.2 c.requests = false → enB c (a ++ [x]) = enB c a := fun h => by unfold enB; simp [List.filter_append, List.filter_cons, h]
    have fY : enoughB x.2.1 x.2.2 c.requests = true → failB x.2.1 x.2.2 c.fails = true → faiB c (a ++ [x]) = faiB c a ++ [x] := fun h g => by unfold faiB; rw [eY h]; simp [List.filter_append, List.filter_cons, g]
    have fN : enoughB x.2.1 x.2.2 c.requests = true → failB x.2.1 x.2.2 c.fails = false → faiB c (a ++ [x]) = faiB c a := fun h g => by unfold faiB; rw [eY h]; simp [List.filter_append, List.filter_cons, g]
    have fN' : enoughB x.2.1 x.2.2 c.requests = false → faiB c (a ++ [x]) = faiB c a := fun h => by unfold faiB; rw [eN h]
    refine round0 (C := seCfg0 [(61, .t)]) (ctrs_ok (seC) rfl rfl) (by kernel_rfl) (by kernel_rfl) (q := decide ((↑a.length : Int) < (↑(List.map rtD all).length : Int)) = true ∧ ∃ (y : Int × Int × Int), (0 : Int) ≤ (↑a.length : Int) ∧ (List.map rtD all)[(↑a.length : Int).toNat]? = some (D.agg [D.int IntKind.i64 y.fst, D.int IntKind.i64 y.snd.fst, D.int IntKind.i64 y.snd.snd]) ∧ True ∧ (enoughB y.snd.fst y.snd.snd c.requests = true → inK IntKind.i64 ((↑(enB c a).length : Int) + (1 : Int)) ∧ (rI y.snd.fst ∧ rI y.snd.snd ∧ rI c.fails) ∧ (failB y.snd.fst y.snd.snd c.fails = true → inK IntKind.i64 ((↑(faiB c a).length : Int) + (1 : Int)) ∧ inK IntKind.i64 ((↑a.length : Int) + (1 : Int)) ∧ ∃ (s' : List Rtd × List Rtd), s'.fst ++ s'.snd = all ∧ s'.snd.length.succ ≤ (x :: r).length ∧ () = () ∧ (D.sl f (List.map rtD all) = D.sl f (List.map rtD all) ∧ D.ptr (0 : Nat) (0 : Nat) (0 : Nat) = D.ptr (0 : Nat) (0 : Nat) (0 : Nat) ∧ D.int IntKind.i64 (↑(enB c s'.fst).length : Int) = D.int IntKind.i64 ((↑(enB c a).length : Int) + (1 : Int)) ∧ D.int IntKind.i64 (↑(faiB c s'.fst).length : Int) = D.int IntKind.i64 ((↑(faiB c a).length : Int) + (1 : Int)) ∧ D.sl f (List.map rtD all) = D.sl f (List.map rtD all) ∧ D.int IntKind.i64 (↑(List.map rtD all).length : Int) = D.int IntKind.i64 (↑(List.map rtD all).length : Int) ∧ D.int IntKind.i64 (↑s'.fst.length : Int) = D.int IntKind.i64 ((↑a.length : Int) + (1 : Int))) ∧ (some (Ob.row St.own (23 : Nat) [c.toD]) = none ∨ some (Ob.row St.own (23 : Nat) [c.toD]) = some (Ob.row St.own (23 : Nat) [c.toD]) ∧ true = true)) ∧ (failB y.snd.fst y.snd.snd c.fails = false → inK IntKind.i64 ((↑a.length : Int) + (1 : Int)) ∧ ∃ (s' : List Rtd × List Rtd), s'.fst ++ s'.snd = all ∧ s'.snd.length.succ ≤ (x :: r).length ∧ () = () ∧ (D.sl f (List.map rtD all) = D.sl f (List.map rtD all) ∧ D.ptr (0 : Nat) (0 : Nat) (0 : Nat) = D.ptr (0 : Nat) (0 : Nat) (0 : Nat) ∧ D.int IntKind.i64 (↑(enB c s'.fst).length : Int) = D.int IntKind.i64 ((↑(enB c a).length : Int) + (1 : Int)) ∧ D.int IntKind.i64 (↑(faiB c s'.fst).length : Int) = D.int IntKind.i64 (↑(faiB c a).length : Int) ∧ D.sl f (List.map rtD all) = D.sl f (List.map rtD all) ∧ D.int IntKind.i64 (↑(List.map rtD all).length : Int) = D.int IntKind.i64 (↑(List.map rtD all).length : Int) ∧ D.int IntKind.i64 (↑s'.fst.length : Int) = D.int IntKind.i64 ((↑a.length : Int) + (1 : Int))) ∧ (some (Ob.row St.own (23 : Nat) [c.toD]) = none ∨ some (Ob.row St.own (23 : Nat) [c.toD]) = some (Ob.row St.own (23 : Nat) [c.toD]) ∧ true = true))) ∧ (enoughB y.snd.fst y.snd.snd c.requests = false → inK IntKind.i64 ((↑a.length : Int) + (1 : Int)) ∧ ∃ (s' : List Rtd × List Rtd), s'.fst ++ s'.snd = all ∧ s'.snd.length.succ ≤ (x :: r).length ∧ () = () ∧ (D.sl f (List.map rtD all) = D.sl f (List.map rtD all) ∧ D.ptr (0 : Nat) (0 : Nat) (0 : Nat) = D.ptr (0 : Nat) (0 : Nat) (0 : Nat) ∧ D.int IntKind.i64 (↑(enB c s'.fst).length : Int) = D.int IntKind.i64 (↑(enB c a).length : Int) ∧ D.int IntKind.i64 (↑(faiB c s'.fst).length : Int) = D.int IntKind.i64 (↑(faiB c a).length : Int) ∧ D.sl f (List.map rtD all) = D.sl f (List.map rtD all) ∧ D.int IntKind.i64 (↑(List.map rtD all).length : Int) = D.int IntKind.i64 (↑(List.map rtD all).length : Int) ∧ D.int IntKind.i64 (↑s'.fst.length : Int) = D.int IntKind.i64 ((↑a.length : Int) + (1 : Int))) ∧ (some (Ob.row St.own (23 : Nat) [c.toD]) = none ∨ some (Ob.row St.own (23 : Nat) [c.toD]) = some (Ob.row St.own (23 : Nat) [c.toD]) ∧ true = true))) (by kernel_rfl) ?_
    have e2 : ∀ {L : List Rtd}, ((L ++ [x]).length : Int) = (L.length : Int) + 1 := fun {L} => by simp
    refine ⟨decide_eq_true (by omega), x, by omega, hg, trivial, fun he => ⟨ink (by omega), ⟨hx.1, hx.2, hc⟩, fun hf => ⟨ink (by omega), hin, (a ++ [x], r), hok, Nat.le_refl _, rfl, ⟨rfl, rfl, ?_, ?_, rfl, rfl, hix⟩, .inr ⟨rfl, rfl⟩⟩, fun hf => ⟨hin, (a ++ [x], r), hok, Nat.le_refl _, rfl, ⟨rfl, rfl, ?_, ?_, rfl, rfl, hix⟩, .inr ⟨rfl, rfl⟩⟩⟩, fun he => ⟨hin, (a ++ [x], r), hok, Nat.le_refl _, rfl, ⟨rfl, rfl, ?_, ?_, rfl, rfl, hix⟩, .inr ⟨rfl, rfl⟩⟩⟩
    · exact congrArg (D.int .i64) (by rw [show enB c (a ++ [x], r).1 = _ from eY he]; exact e2)
    · exact congrArg (D.int .i64) (by rw [show faiB c (a ++ [x], r).1 = _ from fY he hf]; exact e2)
    · exact congrArg (D.int .i64) (by rw [show enB c (a ++ [x], r).1 = _ from eY he]; exact e2)
    · exact congrArg (fun L : List Rtd => D.int .i64 (L.length : Int)) (fN he hf)
    · exact congrArg (fun L : List Rtd => D.int .i64 (L.length : Int)) (eN he)
    · exact congrArg (fun L : List Rtd => D.int .i64 (L.length : Int)) (fN' he)
noncomputable def seCfg (h1 : Hn) (c : Cfg) (f : Bool) (l : List Rtd) : WCfg := { seCfg0 [(21, h1), (86, .t), (91, .t), (107, .t)] with loops := fun k => match k with | 4 => some ((se4 c f l).row [(0, true)]) | 17 => some ((se17 c f l).row [(0, true)]) | _ => none }
noncomputable def seOCfg : WCfg := { seCfg0 [(21, .t)] with unr := fun k => match k with | 4 => 1 | 7 => 1 | 17 => 1 | _ => 0 }
noncomputable def seXCfg (c : Cfg) (f : Bool) (l : List Rtd) : WCfg := { seCfg0 [(21, .f), (61, .f), (86, .t), (91, .t), (107, .t)] with loops := fun k => match k with | 4 => some ((se4 c f l).row [(0, true)]) | _ => none, unr := fun k => match k with | 17 => 1 | _ => 0 }
theorem seN3 (c : Cfg) (f : Bool) (l : List Rtd) (hz : c.zone.size ≤ 9223372036854775807) (hm : mayCfg c = true) (hl : l.length ≤ 64) (hg : ¬ goodR [] l = true) : (c.toD = c.toD ∧ c.zone.size ≤ (9223372036854775807 : Nat)) ∧ ((!mayCfg c) = true → True ∧ D.bool true = D.bool true) ∧ ((!mayCfg c) = false → decide ((64 : Int) < (↑(List.map rtD l).length : Int)) = false ∧ ∃ (b : List Rtd × List Rtd), b.fst ++ b.snd = l ∧ ((D.sl f (List.map rtD l) = D.sl f (List.map rtD l) ∧ D.ptr (0 : Nat) (0 : Nat) (0 : Nat) = D.ptr (0 : Nat) (0 : Nat) (0 : Nat) ∧ D.sl f (List.map rtD l) = D.sl f (List.map rtD l) ∧ D.int IntKind.i64 (↑(List.map rtD l).length : Int) = D.int IntKind.i64 (↑(List.map rtD l).length : Int) ∧ D.int IntKind.i64 (↑b.fst.length : Int) = D.int IntKind.i64 (0 : Int)) ∧ (some (Ob.row St.own (23 : Nat) [c.toD]) = none ∨ some (Ob.row St.own (23 : Nat) [c.toD]) = some (Ob.row St.own (23 : Nat) [c.toD]) ∧ true = true)) ∧ (∀ (a : Unit), goodR b.fst b.snd = true → decide ((0 : Int) < (↑(List.map rtD l).length : Int)) = false ∧ ((c.toD = c.toD ∧ c.zone.size ≤ (9223372036854775807 : Nat)) ∧ ∃ (l_1 : List Rtd), List.map rtD l = List.map rtD l_1 ∧ l_1.length ≤ (500 : Nat)) ∧ true = true ∧ decide ((↑(List.map iD (badV c (List.map dRt (List.map rtD l)))).length : Int) ≤ (0 : Int)) = true ∧ (decide (c.hosts ≤ (0 : Int)) = true → (decide ((0 : Int) < c.factor) = true → True ∧ D.bool true = D.bool true) ∧ (decide ((0 : Int) < c.factor) = false → decide ((↑(List.map iD (badV c (List.map dRt (List.map rtD l)))).length : Int) = (0 : Int)) = true ∧ True ∧ D.bool true = D.bool true)) ∧ (decide (c.hosts ≤ (0 : Int)) = false → decide ((↑(List.map iD (badV c (List.map dRt (List.map rtD l)))).length : Int) = (0 : Int)) = true ∧ True ∧ D.bool true = D.bool true)) ∧ ∀ (a : Unit), goodR b.fst b.snd = false → D.bool true = D.bool true) := by
  have hL : (List.map rtD l).length = l.length := List.length_map ..
  exact ⟨⟨rfl, hz⟩, fun _ => ⟨trivial, rfl⟩, fun _ => ⟨decide_eq_false (by omega), ([], l), rfl, ⟨⟨rfl, rfl, rfl, rfl, rfl⟩, .inr ⟨rfl, rfl⟩⟩, fun _ h => absurd h hg, fun _ _ => rfl⟩⟩
theorem seN1 (c : Cfg) (f : Bool) (l : List Rtd) (hz : c.zone.size ≤ 9223372036854775807) (h : ¬ (mayCfg c = true ∧ l.length ≤ 64)) : (c.toD = c.toD ∧ c.zone.size ≤ (9223372036854775807 : Nat)) ∧ ((!mayCfg c) = true → True ∧ D.bool true = D.bool true) ∧ ((!mayCfg c) = false → decide ((64 : Int) < (↑(List.map rtD l).length : Int)) = true ∧ True ∧ D.bool true = D.bool true) := by
  have hL : (List.map rtD l).length = l.length := List.length_map ..
  refine ⟨⟨rfl, hz⟩, fun _ => ⟨trivial, rfl⟩, fun h1 => ⟨decide_eq_true ?_, trivial, rfl⟩⟩
  have h1 : mayCfg c = true := by simpa using h1
  have : ¬ l.length ≤ 64 := fun h2 => h ⟨h1, h2⟩
  omega
theorem seN2 (c : Cfg) (f : Bool) (l : List Rtd) (hz : c.zone.size ≤ 9223372036854775807) (hm : mayCfg c = true) (hl : l.length ≤ 64) : (c.toD = c.toD ∧ c.zone.size ≤ (9223372036854775807 : Nat)) ∧ ((!mayCfg c) = true → True ∧ D.bool true = D.bool true) ∧ ((!mayCfg c) = false → decide ((64 : Int) < (↑(List.map rtD l).length : Int)) = false ∧ ∃ (b : List Rtd × List Rtd), b.fst ++ b.snd = l ∧ ((D.sl f (List.map rtD l) = D.sl f (List.map rtD l) ∧ D.ptr (0 : Nat) (0 : Nat) (0 : Nat) = D.ptr (0 : Nat) (0 : Nat) (0 : Nat) ∧ D.sl f (List.map rtD l) = D.sl f (List.map rtD l) ∧ D.int IntKind.i64 (↑(List.map rtD l).length : Int) = D.int IntKind.i64 (↑(List.map rtD l).length : Int) ∧ D.int IntKind.i64 (↑b.fst.length : Int) = D.int IntKind.i64 (0 : Int)) ∧ (some (Ob.row St.own (23 : Nat) [c.toD]) = none ∨ some (Ob.row St.own (23 : Nat) [c.toD]) = some (Ob.row St.own (23 : Nat) [c.toD]) ∧ true = true)) ∧ (∀ (a : Unit), goodR b.fst b.snd = true → ∃ (b : List Rtd × List Rtd), b.fst ++ b.snd = l ∧ ((D.sl f (List.map rtD l) = D.sl f (List.map rtD l) ∧ D.ptr (0 : Nat) (0 : Nat) (0 : Nat) = D.ptr (0 : Nat) (0 : Nat) (0 : Nat) ∧ D.int IntKind.i64 (↑(enB c b.fst).length : Int) = D.int IntKind.i64 (0 : Int) ∧ D.int IntKind.i64 (↑(faiB c b.fst).length : Int) = D.int IntKind.i64 (0 : Int) ∧ D.sl f (List.map rtD l) = D.sl f (List.map rtD l) ∧ D.int IntKind.i64 (↑(List.map rtD l).length : Int) = D.int IntKind.i64 (↑(List.map rtD l).length : Int) ∧ D.int IntKind.i64 (↑b.fst.length : Int) = D.int IntKind.i64 (0 : Int)) ∧ (some (Ob.row St.own (23 : Nat) [c.toD]) = none ∨ some (Ob.row St.own (23 : Nat) [c.toD]) = some (Ob.row St.own (23 : Nat) [c.toD]) ∧ true = true)) ∧ ∀ (a : Unit), True → ((c.toD = c.toD ∧ c.zone.size ≤ (9223372036854775807 : Nat)) ∧ ∃ (l_1 : List Rtd), List.map rtD l = List.map rtD l_1 ∧ l_1.length ≤ (500 : Nat)) ∧ decide ((↑(faiB c l).length : Int) ≤ (↑(List.map iD (badV c (List.map dRt (List.map rtD l)))).length : Int)) = true ∧ decide ((↑(List.map iD (badV c (List.map dRt (List.map rtD l)))).length : Int) ≤ (↑(enB c l).length : Int)) = true ∧ (decide (c.hosts ≤ (↑(enB c l).length : Int)) = true → (decide ((0 : Int) < c.factor) = true → True ∧ D.bool true = D.bool true) ∧ (decide ((0 : Int) < c.factor) = false → decide ((↑(List.map iD (badV c (List.map dRt (List.map rtD l)))).length : Int) = (↑(faiB c l).length : Int)) = true ∧ True ∧ D.bool true = D.bool true)) ∧ (decide (c.hosts ≤ (↑(enB c l).length : Int)) = false → decide ((↑(List.map iD (badV c (List.map dRt (List.map rtD l)))).length : Int) = (↑(faiB c l).length : Int)) = true ∧ True ∧ D.bool true = D.bool true)) ∧ ∀ (a : Unit), goodR b.fst b.snd = false → D.bool true = D.bool true) := by
  have hL : (List.map rtD l).length = l.length := List.length_map ..
  have hn := may_nums hm
  refine ⟨⟨rfl, hz⟩, fun _ => ⟨trivial, rfl⟩, fun _ => ⟨decide_eq_false (by omega), ([], l), rfl, ⟨⟨rfl, rfl, rfl, rfl, rfl⟩, .inr ⟨rfl, rfl⟩⟩, fun _ hg => ?_, fun _ _ => rfl⟩⟩
  have hml : mayM l = true := by rw [may_good, decide_eq_true hl]; exact hg
  have hB : badV c l = (sortK (badKs c (enB c l) (farL c (enB c l)))).map (·.2) := if_pos ⟨hm, hml⟩
  have hBl : (List.map iD (badV c l)).length = (((enB c l).zip (farL c (enB c l))).filter (isBad c)).length := by
    rw [List.length_map, hB, List.length_map, sortK_len, badKs_len]
  have hbt := bad_between c (enB c l) (farL c (enB c l)) (farL_len ..)
  have hfa : (faiB c l).length = ((enB c l).filter fun x => failB x.2.1 x.2.2 c.fails).length := rfl
  have hno : ¬ (0 < c.factor ∧ c.hosts ≤ ((enB c l).length : Int)) → (List.map iD (badV c l)).length = (faiB c l).length := fun h => by
    rw [hBl, hfa, show farL c (enB c l) = List.replicate (enB c l).length false from if_neg h]
    exact bad_none c (enB c l)
  rw [map_dRt]
  refine ⟨([], l), rfl, ⟨⟨rfl, rfl, rfl, rfl, rfl, rfl, rfl⟩, .inr ⟨rfl, rfl⟩⟩, fun _ _ => ⟨⟨⟨rfl, hz⟩, l, rfl, by omega⟩, decide_eq_true (by omega), decide_eq_true (by omega), fun h1 => ⟨fun _ => ⟨trivial, rfl⟩, fun h2 => ⟨decide_eq_true (by rw [hno (fun h => of_decide_eq_false h2 h.1)]), trivial, rfl⟩⟩, fun h1 => ⟨decide_eq_true (by rw [hno (fun h => of_decide_eq_false h1 h.2)]), trivial, rfl⟩⟩⟩
theorem spreadEnough_law {x0 : List D} (o0 : OkL reachBytes [.int .i64, .int .i64, .int .i64, .int .i64, .int .i64, .int .i64, .int .i64, .int .i64, .int .i64, .int .i64, .int .i64, .int .i64, .int .i64, .int .i64, .int .i64, .bool, .int .i64, .int .i64, .int .i64, .int .i64, .int .i64, .str, .bool] x0) {x1 : List D} (o1 : OkL reachBytes [.sl true [.int .i64, .int .i64, .int .i64]] x1) : DataFun Try.prog 6 [vOf true x0, vOf false x1] (.bool true) := by
  obtain ⟨c, rfl, _, hz⟩ := cfgL_of' o0
  obtain ⟨f, l, rfl, _⟩ := okl1_rated o1
  by_cases h : mayCfg c = true ∧ l.length ≤ 64
  · by_cases hgd : goodR [] l = true
    · have hml : mayM l = true := by rw [may_good, decide_eq_true h.2]; exact hgd
      refine dataFunL (C := seCfg .f c f l) (ctrs_ok seC rfl rfl) rfl Try.func6 (by kernel_rfl) (l := [lp Try.f6 4, lp Try.f6 17]) (by kernel_rfl) (fun x hx => ?_) (by kernel_rfl) (by kernel_rfl) (by kernel_rfl) (seN2 c f l hz h.1 h.2)
      simp only [List.mem_cons, List.not_mem_nil, or_false] at hx
      rcases hx with rfl | rfl
      · exact (se4 c f l).fits 4 [(0, true)] (by kernel_rfl) rfl (se4R c f l hz h.2)
      · exact (se17 c f l).fits 17 [(0, true)] (by kernel_rfl) rfl (se17R c f l h.2 ((mayM_iff l).1 hml).1 (may_nums h.1).2.2.2.2)
    · refine dataFunL (C := seXCfg c f l) (ctrs_ok seC rfl rfl) rfl Try.func6 (by kernel_rfl) (l := [lp Try.f6 4]) (by kernel_rfl) (fun x hx => ?_) (by kernel_rfl) (by kernel_rfl) (by kernel_rfl) (seN3 c f l hz h.1 h.2 hgd)
      rw [List.mem_singleton.1 hx]
      exact (se4 c f l).fits 4 [(0, true)] (by kernel_rfl) rfl (se4R c f l hz h.2)
  · exact dataFun0 (C := seOCfg) (ctrs_ok seC rfl rfl) rfl Try.func6 (by kernel_rfl) (by kernel_rfl) (by kernel_rfl) (by kernel_rfl) (by kernel_rfl) (seN1 c f l hz h)
end Go.Proofs.Ytfclelafcdcilaa.Dv
