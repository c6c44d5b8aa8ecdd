/- slices.Index, slices.Contains; the loops of ring.Owners. -/
import Derived.Test.YtfclelafcdcilaaDoorQ5
set_option linter.unusedVariables false
set_option linter.unusedSimpArgs false
namespace Go.Proofs.YtfclelafcdcilaaDoor.Dv
open Go Go.Proofs
def ixV (n : Int) : List Int → Int → Int
  | [], _ => -1
  | x :: r, i => if n = x then i else ixV n r (i + 1)
theorem ixV_ge (n : Int) : ∀ (l : List Int) (i : Int), 0 ≤ i → decide (0 ≤ ixV n l i) = decide (n ∈ l)
  | [], i, h => by simp [ixV]
  | x :: r, i, h => by
    unfold ixV
    by_cases e : n = x
    · rw [if_pos e, decide_eq_true h, decide_eq_true (by rw [e]; exact List.mem_cons_self ..)]
    · rw [if_neg e, ixV_ge n r (i + 1) (by omega)]
      rw [decide_eq_decide, List.mem_cons]
      simp [e]
def ixL (f : Bool) (l : List Int) (n : Int) : WLoop :=
  { St := List Int × List Int
    O := Int
    T := fun s => [(0, .sl f (l.map iD)), (1, .int .i64 n), (7, .int .i64 (l.map iD).length), (8, .int .i64 s.1.length)]
    ok := fun s => s.1 ++ s.2 = l ∧ l.length ≤ 4398046511104
    μ := fun s => s.2.length
    m := fun s => ixV n s.2 s.1.length
    outs := [{ α := Unit, is := fun o _ => o = -1, ex := .exit 0, T := fun _ => [] }, { α := Int, is := fun o k => o = k, ex := .ret, T := fun k => [(4, .int .i64 k)] }] }
theorem ixR (f : Bool) (l : List Int) (n : Int) (s : (ixL f l n).St) (hs : (ixL f l n).ok s) : Tri Tryd.prog 0 19 (lp Tryd.f34 2) (tb ((ixL f l n).T s)) ((ixL f l n).S s) ((ixL f l n).q 0 s) := by
  obtain ⟨a, r⟩ := s
  obtain ⟨h1, h2⟩ := hs
  simp only at h1 h2
  subst h1
  have hA : (List.map iD (a ++ r)).length = a.length + r.length := by rw [List.length_map, List.length_append]
  cases r with
  | nil =>
    refine round0 (C := gCf 0 [] [] [(9, .f)]) (ctrs_ok ([]) rfl rfl) (by kernel_rfl) (by kernel_rfl) (q := decide ((↑a.length : Int) < (↑(List.map iD (a ++ [])).length : Int)) = false ∧ ∃ (a : Unit), Int.negSucc (0 : Nat) = (-1 : Int) ∧ True) (by kernel_rfl) ?_
    have hA : (List.map iD (a ++ [])).length = a.length := by simp
    exact ⟨decide_eq_false (by omega), (), rfl, trivial⟩
  | cons x r =>
    refine round0 (C := gCf 0 [] [] [(9, .t)]) (ctrs_ok ([]) rfl rfl) (by kernel_rfl) (by kernel_rfl) (q := decide ((↑a.length : Int) < (↑(List.map iD (a ++ x :: r)).length : Int)) = true ∧ ∃ (y : Int), (0 : Int) ≤ (↑a.length : Int) ∧ (List.map iD (a ++ x :: r))[(↑a.length : Int).toNat]? = some (D.int IntKind.i64 y) ∧ (decide (n = y) = true → ∃ (a_2 : Int), ixV n (x :: r) (↑a.length : Int) = a_2 ∧ D.int IntKind.i64 a_2 = D.int IntKind.i64 (↑a.length : Int)) ∧ (decide (n = y) = false → inK IntKind.i64 ((↑a.length : Int) + (1 : Int)) ∧ ∃ (s' : List Int × List Int), (s'.fst ++ s'.snd = a ++ x :: r ∧ (a ++ x :: r).length ≤ (4398046511104 : Nat)) ∧ s'.snd.length.succ ≤ (x :: r).length ∧ ixV n s'.snd (↑s'.fst.length : Int) = ixV n (x :: r) (↑a.length : Int) ∧ D.sl f (List.map iD (a ++ x :: r)) = D.sl f (List.map iD (a ++ x :: r)) ∧ D.int IntKind.i64 n = D.int IntKind.i64 n ∧ D.int IntKind.i64 (↑(List.map iD (a ++ x :: r)).length : Int) = D.int IntKind.i64 (↑(List.map iD (a ++ x :: r)).length : Int) ∧ D.int IntKind.i64 (↑s'.fst.length : Int) = D.int IntKind.i64 ((↑a.length : Int) + (1 : Int)))) (by kernel_rfl) ?_
    have hA : (List.map iD (a ++ x :: r)).length = a.length + (r.length + 1) := by simp
    have h2' : a.length + (r.length + 1) ≤ 4398046511104 := by rw [← hA, List.length_map]; exact h2
    refine ⟨decide_eq_true (by omega), x, by omega, get_midI iD a x r, fun h => ⟨a.length, ?_, rfl⟩, fun h => ⟨inkQ (by omega), (a ++ [x], r), ⟨by simp, h2⟩, Nat.le_refl _, ?_, rfl, rfl, rfl, ?_⟩⟩
    · unfold ixV; rw [if_pos (of_decide_eq_true h)]
    · rw [show ixV n (x :: r) a.length = ixV n r (a.length + 1) by rw [ixV, if_neg (of_decide_eq_false h)]]
      simp
    · simp
def ixCfg (f : Bool) (l : List Int) (n : Int) : WCfg := { gCf 0 [] [] [] with loops := fun k => match k with | 2 => some ((ixL f l n).row []) | _ => none }
theorem ixN (f : Bool) (l : List Int) (n : Int) (h : l.length ≤ 4398046511104) : ∃ (b : List Int × List Int), (b.fst ++ b.snd = l ∧ l.length ≤ (4398046511104 : Nat)) ∧ (D.sl f (List.map iD l) = D.sl f (List.map iD l) ∧ D.int IntKind.i64 n = D.int IntKind.i64 n ∧ D.int IntKind.i64 (↑(List.map iD l).length : Int) = D.int IntKind.i64 (↑(List.map iD l).length : Int) ∧ D.int IntKind.i64 (↑b.fst.length : Int) = D.int IntKind.i64 (0 : Int)) ∧ (∀ (a : Unit), ixV n b.snd (↑b.fst.length : Int) = (-1 : Int) → D.int IntKind.i64 (-1 : Int) = D.int IntKind.i64 (ixV n l (0 : Int))) ∧ ∀ (a : Int), ixV n b.snd (↑b.fst.length : Int) = a → D.int IntKind.i64 a = D.int IntKind.i64 (ixV n l (0 : Int)) := by
  refine ⟨([], l), ⟨rfl, h⟩, ⟨rfl, rfl, rfl, rfl⟩, fun _ h => ?_, fun a h => ?_⟩
  · rw [show ixV n l 0 = -1 from h]
  · rw [show ixV n l 0 = a from h]
def ixS (vs : List D) : Option DOut := match vs with | [.sl f xs, .int .i64 n] => some ⟨(∃ l : List Int, xs = l.map iD) ∧ xs.length ≤ 4398046511104, .int .i64 (ixV n (xs.map dI) 0)⟩ | _ => none
def ixC : Ctr := ⟨34, ixS, by
  intro vs o ho hp
  unfold ixS at ho
  split at ho
  · rename_i f xs n
    injection ho with ho; subst ho
    obtain ⟨⟨l, rfl⟩, hl⟩ := hp
    rw [List.length_map] at hl
    simp only
    rw [map_dI]
    exact dataFunL (C := ixCfg f l n) (ctrs_ok [] rfl rfl) rfl Tryd.func34 (by kernel_rfl) (l := [lp Tryd.f34 2]) (by kernel_rfl) (fun x hx => by rw [List.mem_singleton.1 hx]; exact (ixL f l n).fits 2 [] (by kernel_rfl) rfl (ixR f l n)) (by kernel_rfl) rfl (by kernel_rfl) (ixN f l n hl)
  · cases ho⟩
theorem coN (f : Bool) (l : List Int) (n : Int) (h : l.length ≤ 4398046511104) : ((∃ (l_1 : List Int), List.map iD l = List.map iD l_1) ∧ (List.map iD l).length ≤ (4398046511104 : Nat)) ∧ D.bool (decide ((0 : Int) ≤ ixV n (List.map dI (List.map iD l)) (0 : Int))) = D.bool (decide (n ∈ l)) := by
  rw [map_dI, ixV_ge n l 0 (by omega), List.length_map]
  exact ⟨⟨⟨l, rfl⟩, h⟩, rfl⟩
def coS (vs : List D) : Option DOut := match vs with | [.sl f xs, .int .i64 n] => some ⟨(∃ l : List Int, xs = l.map iD) ∧ xs.length ≤ 4398046511104, .bool (decide (n ∈ xs.map dI))⟩ | _ => none
def coC : Ctr := ⟨25, coS, by
  intro vs o ho hp
  unfold coS at ho
  split at ho
  · rename_i f xs n
    injection ho with ho; subst ho
    obtain ⟨⟨l, rfl⟩, hl⟩ := hp
    rw [List.length_map] at hl
    simp only
    rw [map_dI]
    exact dataFun0 (C := gCf 0 [ixC] [] []) (ctrsR_ok [ixC] [] rfl rfl rfl rfl) rfl Tryd.func25 (by kernel_rfl) (by kernel_rfl) (by kernel_rfl) rfl (by kernel_rfl) (coN f l n hl)
  · cases ho⟩
/-! ### the points of all -/
noncomputable def hp (h : Hst) : List Pt := (ptsV h.addr h.w).map fun u => (u, h.id)
noncomputable def ptsOf (l : List Hst) : List Pt := l.flatMap hp
theorem oDp (id : Nat) (us : List Pt) (k : Pt) : outD id (List.map ptD (us ++ [k])) = .ms id 0 ((List.map ptD us).length + 1) ((List.map ptD us).length + 1) false := outD_ofQ (by rw [List.map_append, List.length_append]; rfl)
theorem oRp (us : List Pt) (k : Pt) : outO 2 (List.map ptD (us ++ [k])) = some (.row .own 2 (List.take (List.map ptD us).length (List.map ptD us) ++ [ptD k])) ∧ (List.take (List.map ptD us).length (List.map ptD us) ++ [ptD k]).all D.pure = true := by
  have e : List.take (List.map ptD us).length (List.map ptD us) ++ [ptD k] = List.map ptD (us ++ [k]) := by rw [List.take_length, List.map_append]; rfl
  rw [e]
  exact ⟨outO_ofQ (by simp), pure_ptD _⟩
noncomputable def owC : List Ctr := [ptCtr, txC, coC]
noncomputable def owCf (h : List (Nat × Hn)) : WCfg := gCf 0 owC [spC, ccC] h
noncomputable def o6 (key : ByteArray) (n : Int) (f : Bool) (l : List Hst) (i : Nat) (h : Hst) (g : Bool) (us : List Int) : WLoop :=
  { St := List Int × List Int × List Pt
    O := List Pt
    T := fun s => [(1, .str key), (2, .int .i64 n), (7, outD 0 (s.2.2.map ptD)), (9, .ptr 1 0 0), (17, .sl f (l.map hstD)), (18, .int .i64 (l.map hstD).length), (19, .int .i64 i), (24, .sl g (us.map uD)), (25, .int .i64 (us.map uD).length), (26, .int .i64 s.1.length)]
    S := fun s => [outO 2 (s.2.2.map ptD), some (.row .own 6 [hstD h])]
    ok := fun s => s.1 ++ s.2.1 = us ∧ us.length ≤ 60 ∧ s.2.2.length + s.2.1.length ≤ 100000
    μ := fun s => s.2.1.length
    m := fun s => s.2.2 ++ s.2.1.map fun u => (u, h.id)
    src := [(3, true), (1, true)]
    outs := [{ α := Unit, is := fun o _ => o = [], ex := .exit 2, src := [], T := fun _ => [(1, .str key), (2, .int .i64 n), (7, .sl true []), (17, .sl f (l.map hstD)), (18, .int .i64 (l.map hstD).length), (19, .int .i64 i)] },
      { α := Pt × List Pt, is := fun o z => o = z.1 :: z.2, ex := .exit 2, src := [(0, true)], T := fun z => [(1, .str key), (2, .int .i64 n), (7, outD 0 ((z.1 :: z.2).map ptD)), (17, .sl f (l.map hstD)), (18, .int .i64 (l.map hstD).length), (19, .int .i64 i)], S := fun z => [outO 2 ((z.1 :: z.2).map ptD)] }] }
theorem o6R (key : ByteArray) (n : Int) (f : Bool) (l : List Hst) (i : Nat) (h : Hst) (g : Bool) (us : List Int) (s : (o6 key n f l i h g us).St) (hs : (o6 key n f l i h g us).ok s) : Tri Tryd.prog 0 87 (lp Tryd.f11 6) (tb ((o6 key n f l i h g us).T s)) ((o6 key n f l i h g us).S s) ((o6 key n f l i h g us).q 0 s) := by
  obtain ⟨a, r, u⟩ := s
  obtain ⟨h1, h2, h3⟩ := hs
  simp only at h1 h2 h3
  subst h1
  have hA : (List.map uD (a ++ r)).length = a.length + r.length := by rw [List.length_map, List.length_append]
  cases r with
  | nil =>
    cases u with
    | nil =>
      refine round0 (C := gCf 0 [] [] [(27, .f)]) (ctrs_ok ([]) rfl rfl) (by kernel_rfl) (by kernel_rfl) (q := decide ((↑a.length : Int) < (↑(List.map uD (a ++ [])).length : Int)) = false ∧ ((∃ (a : Unit), nilT (Int × Int) = [] ∧ D.str key = D.str key ∧ D.int IntKind.i64 n = D.int IntKind.i64 n ∧ D.sl true [] = D.sl true [] ∧ D.sl f (List.map hstD l) = D.sl f (List.map hstD l) ∧ D.int IntKind.i64 (↑(List.map hstD l).length : Int) = D.int IntKind.i64 (↑(List.map hstD l).length : Int) ∧ D.int IntKind.i64 (↑i : Int) = D.int IntKind.i64 (↑i : Int)) ∨ ∃ (a : Pt × List Pt), nilT (Int × Int) = a.fst :: a.snd ∧ (D.str key = D.str key ∧ D.int IntKind.i64 n = D.int IntKind.i64 n ∧ D.ms (0 : Nat) (0 : Nat) (List.map ptD (a.fst :: a.snd)).length (List.map ptD (a.fst :: a.snd)).length false = D.sl true [] ∧ D.sl f (List.map hstD l) = D.sl f (List.map hstD l) ∧ D.int IntKind.i64 (↑(List.map hstD l).length : Int) = D.int IntKind.i64 (↑(List.map hstD l).length : Int) ∧ D.int IntKind.i64 (↑i : Int) = D.int IntKind.i64 (↑i : Int)) ∧ (some (Ob.row St.own (2 : Nat) (List.map ptD (a.fst :: a.snd))) = none ∨ some (Ob.row St.own (2 : Nat) (List.map ptD (a.fst :: a.snd))) = none ∧ False))) (by kernel_rfl) ?_
      have hA : (List.map uD (a ++ [])).length = a.length := by simp
      exact ⟨decide_eq_false (by omega), .inl ⟨(), rfl, rfl, rfl, rfl, rfl, rfl, rfl⟩⟩
    | cons e es =>
      refine round0 (C := gCf 0 [] [] [(27, .f)]) (ctrs_ok ([]) rfl rfl) (by kernel_rfl) (by kernel_rfl) (q := decide ((↑a.length : Int) < (↑(List.map uD (a ++ [])).length : Int)) = false ∧ ((∃ (a : Unit), e :: es ++ [] = [] ∧ D.str key = D.str key ∧ D.int IntKind.i64 n = D.int IntKind.i64 n ∧ D.sl true [] = D.any ∧ D.sl f (List.map hstD l) = D.sl f (List.map hstD l) ∧ D.int IntKind.i64 (↑(List.map hstD l).length : Int) = D.int IntKind.i64 (↑(List.map hstD l).length : Int) ∧ D.int IntKind.i64 (↑i : Int) = D.int IntKind.i64 (↑i : Int)) ∨ ∃ (a : Pt × List Pt), e :: es ++ [] = a.fst :: a.snd ∧ (D.str key = D.str key ∧ D.int IntKind.i64 n = D.int IntKind.i64 n ∧ D.ms (0 : Nat) (0 : Nat) (List.map ptD (a.fst :: a.snd)).length (List.map ptD (a.fst :: a.snd)).length false = D.ms (0 : Nat) (0 : Nat) (List.map ptD (e :: es)).length (List.map ptD (e :: es)).length false ∧ D.sl f (List.map hstD l) = D.sl f (List.map hstD l) ∧ D.int IntKind.i64 (↑(List.map hstD l).length : Int) = D.int IntKind.i64 (↑(List.map hstD l).length : Int) ∧ D.int IntKind.i64 (↑i : Int) = D.int IntKind.i64 (↑i : Int)) ∧ (some (Ob.row St.own (2 : Nat) (List.map ptD (a.fst :: a.snd))) = none ∨ some (Ob.row St.own (2 : Nat) (List.map ptD (a.fst :: a.snd))) = some (Ob.row St.own (2 : Nat) (List.map ptD (e :: es))) ∧ (List.map ptD (e :: es)).all D.pure = true))) (by kernel_rfl) ?_
      have hA : (List.map uD (a ++ [])).length = a.length := by simp
      exact ⟨decide_eq_false (by omega), .inr ⟨(e, es), List.append_nil _, ⟨rfl, rfl, rfl, rfl, rfl, rfl⟩, .inr ⟨rfl, pure_ptD _⟩⟩⟩
  | cons x r =>
    cases u with
    | nil =>
      refine round0 (C := gCf 0 [] [] [(27, .t)]) (ctrs_ok ([]) rfl rfl) (by kernel_rfl) (by kernel_rfl) (q := decide ((↑a.length : Int) < (↑(List.map uD (a ++ x :: r)).length : Int)) = true ∧ ∃ (y : Int), (0 : Int) ≤ (↑a.length : Int) ∧ (List.map uD (a ++ x :: r))[(↑a.length : Int).toNat]? = some (D.int IntKind.u64 y) ∧ inK IntKind.i64 ((↑a.length : Int) + (1 : Int)) ∧ ∃ (s' : List Int × List Int × List Pt), (s'.fst ++ s'.snd.fst = a ++ x :: r ∧ (a ++ x :: r).length ≤ (60 : Nat) ∧ s'.snd.snd.length + s'.snd.fst.length ≤ (100000 : Nat)) ∧ s'.snd.fst.length.succ ≤ (x :: r).length ∧ s'.snd.snd ++ List.map (fun (u : Int) => (u, h.id)) s'.snd.fst = [] ++ List.map (fun (u : Int) => (u, h.id)) (x :: r) ∧ (D.str key = D.str key ∧ D.int IntKind.i64 n = D.int IntKind.i64 n ∧ outD (0 : Nat) (List.map ptD s'.snd.snd) = D.ms (0 : Nat) (0 : Nat) (1 : Nat) (1 : Nat) false ∧ D.ptr (1 : Nat) (0 : Nat) (0 : Nat) = D.ptr (1 : Nat) (0 : Nat) (0 : Nat) ∧ D.sl f (List.map hstD l) = D.sl f (List.map hstD l) ∧ D.int IntKind.i64 (↑(List.map hstD l).length : Int) = D.int IntKind.i64 (↑(List.map hstD l).length : Int) ∧ D.int IntKind.i64 (↑i : Int) = D.int IntKind.i64 (↑i : Int) ∧ D.sl g (List.map uD (a ++ x :: r)) = D.sl g (List.map uD (a ++ x :: r)) ∧ D.int IntKind.i64 (↑(List.map uD (a ++ x :: r)).length : Int) = D.int IntKind.i64 (↑(List.map uD (a ++ x :: r)).length : Int) ∧ D.int IntKind.i64 (↑s'.fst.length : Int) = D.int IntKind.i64 ((↑a.length : Int) + (1 : Int))) ∧ (outO (2 : Nat) (List.map ptD s'.snd.snd) = none ∨ outO (2 : Nat) (List.map ptD s'.snd.snd) = some (Ob.row St.own (2 : Nat) [D.agg [D.int IntKind.u64 y, D.int IntKind.i64 h.id]]) ∧ true = true) ∧ (some (Ob.row St.own (6 : Nat) [D.agg [D.int IntKind.i64 h.id, D.str h.addr, D.int IntKind.i64 h.prio, D.str h.zone, D.int IntKind.i64 h.w, D.sl h.f (List.map pairQ h.mt)]]) = none ∨ some (Ob.row St.own (6 : Nat) [D.agg [D.int IntKind.i64 h.id, D.str h.addr, D.int IntKind.i64 h.prio, D.str h.zone, D.int IntKind.i64 h.w, D.sl h.f (List.map pairQ h.mt)]]) = some (Ob.row St.own (6 : Nat) [D.agg [D.int IntKind.i64 h.id, D.str h.addr, D.int IntKind.i64 h.prio, D.str h.zone, D.int IntKind.i64 h.w, D.sl h.f (List.map pairQ h.mt)]]) ∧ true = true)) (by kernel_rfl) ?_
      have hA : (List.map uD (a ++ x :: r)).length = a.length + (r.length + 1) := by simp
      have h2' : a.length + (r.length + 1) ≤ 60 := by rw [← hA, List.length_map]; exact h2
      simp only [List.length_nil, List.length_cons] at h3
      refine ⟨decide_eq_true (by omega), x, by omega, get_midI uD a x r, inkQ (by omega), (a ++ [x], r, [(x, h.id)]), ⟨by simp, h2, by show 1 + r.length ≤ 100000; omega⟩, Nat.le_refl _, rfl, ⟨rfl, rfl, rfl, rfl, rfl, rfl, rfl, rfl, rfl, ?_⟩, .inr ⟨rfl, rfl⟩, .inr ⟨rfl, rfl⟩⟩
      simp
    | cons e es =>
      refine round0 (C := gCf 0 [] [] [(27, .t)]) (ctrs_ok ([]) rfl rfl) (by kernel_rfl) (by kernel_rfl) (q := decide ((↑a.length : Int) < (↑(List.map uD (a ++ x :: r)).length : Int)) = true ∧ ∃ (y : Int), (0 : Int) ≤ (↑a.length : Int) ∧ (List.map uD (a ++ x :: r))[(↑a.length : Int).toNat]? = some (D.int IntKind.u64 y) ∧ (0 : Nat) + (List.map ptD (e :: es)).length ≤ (List.map ptD (e :: es)).length ∧ (List.map ptD (e :: es)).length ≤ (List.map ptD (e :: es)).length ∧ ((List.map ptD (e :: es)).length + (1 : Nat)) * (16 : Nat) ≤ (140737488355328 : Nat) ∧ (List.map ptD (e :: es)).length.succ ≤ (List.map ptD (e :: es)).length + (1 : Nat) ∧ (0 : Nat) = (0 : Nat) ∧ inK IntKind.i64 ((↑a.length : Int) + (1 : Int)) ∧ ∃ (s' : List Int × List Int × List Pt), (s'.fst ++ s'.snd.fst = a ++ x :: r ∧ (a ++ x :: r).length ≤ (60 : Nat) ∧ s'.snd.snd.length + s'.snd.fst.length ≤ (100000 : Nat)) ∧ s'.snd.fst.length.succ ≤ (x :: r).length ∧ s'.snd.snd ++ List.map (fun (u : Int) => (u, h.id)) s'.snd.fst = e :: es ++ List.map (fun (u : Int) => (u, h.id)) (x :: r) ∧ (D.str key = D.str key ∧ D.int IntKind.i64 n = D.int IntKind.i64 n ∧ outD (0 : Nat) (List.map ptD s'.snd.snd) = D.ms (0 : Nat) (0 : Nat) ((List.map ptD (e :: es)).length + (1 : Nat)) ((List.map ptD (e :: es)).length + (1 : Nat)) false ∧ D.ptr (1 : Nat) (0 : Nat) (0 : Nat) = D.ptr (1 : Nat) (0 : Nat) (0 : Nat) ∧ D.sl f (List.map hstD l) = D.sl f (List.map hstD l) ∧ D.int IntKind.i64 (↑(List.map hstD l).length : Int) = D.int IntKind.i64 (↑(List.map hstD l).length : Int) ∧ D.int IntKind.i64 (↑i : Int) = D.int IntKind.i64 (↑i : Int) ∧ D.sl g (List.map uD (a ++ x :: r)) = D.sl g (List.map uD (a ++ x :: r)) ∧ D.int IntKind.i64 (↑(List.map uD (a ++ x :: r)).length : Int) = D.int IntKind.i64 (↑(List.map uD (a ++ x :: r)).length : Int) ∧ D.int IntKind.i64 (↑s'.fst.length : Int) = D.int IntKind.i64 ((↑a.length : Int) + (1 : Int))) ∧ (outO (2 : Nat) (List.map ptD s'.snd.snd) = none ∨ outO (2 : Nat) (List.map ptD s'.snd.snd) = some (Ob.row St.own (2 : Nat) (List.take (List.map ptD (e :: es)).length (List.map ptD (e :: es)) ++ [D.agg [D.int IntKind.u64 y, D.int IntKind.i64 h.id]])) ∧ (List.take (List.map ptD (e :: es)).length (List.map ptD (e :: es)) ++ [D.agg [D.int IntKind.u64 y, D.int IntKind.i64 h.id]]).all D.pure = true) ∧ (some (Ob.row St.own (6 : Nat) [D.agg [D.int IntKind.i64 h.id, D.str h.addr, D.int IntKind.i64 h.prio, D.str h.zone, D.int IntKind.i64 h.w, D.sl h.f (List.map pairQ h.mt)]]) = none ∨ some (Ob.row St.own (6 : Nat) [D.agg [D.int IntKind.i64 h.id, D.str h.addr, D.int IntKind.i64 h.prio, D.str h.zone, D.int IntKind.i64 h.w, D.sl h.f (List.map pairQ h.mt)]]) = some (Ob.row St.own (6 : Nat) [D.agg [D.int IntKind.i64 h.id, D.str h.addr, D.int IntKind.i64 h.prio, D.str h.zone, D.int IntKind.i64 h.w, D.sl h.f (List.map pairQ h.mt)]]) ∧ true = true)) (by kernel_rfl) ?_
      have hA : (List.map uD (a ++ x :: r)).length = a.length + (r.length + 1) := by simp
      have h2' : a.length + (r.length + 1) ≤ 60 := by rw [← hA, List.length_map]; exact h2
      have hE : (List.map ptD (e :: es)).length = (e :: es).length := List.length_map ..
      have h3' : (e :: es).length + (r.length + 1) ≤ 100000 := h3
      refine ⟨decide_eq_true (by omega), x, by omega, get_midI uD a x r, by omega, Nat.le_refl _, by omega, Nat.le_refl _, rfl, inkQ (by omega), (a ++ [x], r, (e :: es) ++ [(x, h.id)]), ⟨by simp, h2, by rw [List.length_append]; show _ + 1 + r.length ≤ _; omega⟩, Nat.le_refl _, ?_, ⟨rfl, rfl, oDp 0 (e :: es) (x, h.id), rfl, rfl, rfl, rfl, rfl, rfl, ?_⟩, .inr (oRp (e :: es) (x, h.id)), .inr ⟨rfl, rfl⟩⟩
      · rw [List.append_assoc]; rfl
      · simp
/-! ### all hosts -/
noncomputable def o3 (key : ByteArray) (n : Int) (f : Bool) (l : List Hst) : WLoop :=
  { St := List Hst × List Hst × List Pt
    O := List Pt
    T := fun s => [(1, .str key), (2, .int .i64 n), (7, outD 0 (s.2.2.map ptD)), (17, .sl f (l.map hstD)), (18, .int .i64 (l.map hstD).length), (19, .int .i64 s.1.length)]
    S := fun s => [outO 2 (s.2.2.map ptD)]
    ok := fun s => s.1 ++ s.2.1 = l ∧ l.length ≤ 1000 ∧ s.2.2 = ptsOf s.1 ∧ ∀ h ∈ l, h.small
    μ := fun s => s.2.1.length
    m := fun s => ptsOf l
    src := [(0, true)]
    outs := [{ α := Unit, is := fun o _ => o = [], ex := .exit 0, src := [], T := fun _ => [(1, .str key), (2, .int .i64 n), (7, .sl true [])] },
      { α := Pt × List Pt, is := fun o z => o = z.1 :: z.2, ex := .exit 0, src := [(0, true)], T := fun z => [(1, .str key), (2, .int .i64 n), (7, outD 0 ((z.1 :: z.2).map ptD))], S := fun z => [outO 2 ((z.1 :: z.2).map ptD)] }] }
noncomputable def o3Cf (key : ByteArray) (n : Int) (f : Bool) (l : List Hst) (i : Nat) (h : Hst) : WCfg := { gCf 0 owC [] [(20, .t)] with loops := fun j => match j with | 6 => some ((o6 key n f l i h (decide (h.w < 1 ∨ 20 < h.w)) (ptsV h.addr h.w)).row [(0, true), (1, true)]) | _ => none }
theorem ptsV_len (s : ByteArray) (w : Int) : (ptsV s w).length ≤ 60 := by
  unfold ptsV; split
  · simp
  · rw [List.length_map, List.length_range]; omega
theorem ptsOf_len : ∀ l : List Hst, (ptsOf l).length ≤ l.length * 60
  | [] => by simp [ptsOf]
  | h :: r => by
    have := ptsOf_len r
    have h2 := ptsV_len h.addr h.w
    unfold ptsOf at this ⊢
    rw [List.flatMap_cons, List.length_append, List.length_cons]
    unfold hp
    rw [List.length_map]
    unfold hp at this
    omega
theorem ptsOf_snoc (l : List Hst) (h : Hst) : ptsOf (l ++ [h]) = ptsOf l ++ hp h := by unfold ptsOf; simp
theorem o6_fits (key : ByteArray) (n : Int) (f : Bool) (l : List Hst) (i : Nat) (h : Hst) : ∀ z ∈ [lp Tryd.f11 6], LoopFits Tryd.prog (o3Cf key n f l i h) 87 z := by
  intro z hz
  rw [List.mem_singleton.1 hz]
  exact (o6 key n f l i h (decide (h.w < 1 ∨ 20 < h.w)) (ptsV h.addr h.w)).fits 6 [(0, true), (1, true)] (by kernel_rfl) rfl (o6R key n f l i h (decide (h.w < 1 ∨ 20 < h.w)) (ptsV h.addr h.w))
theorem o3R (key : ByteArray) (n : Int) (f : Bool) (l : List Hst) (s : (o3 key n f l).St) (hs : (o3 key n f l).ok s) : Tri Tryd.prog 0 87 (lp Tryd.f11 3) (tb ((o3 key n f l).T s)) ((o3 key n f l).S s) ((o3 key n f l).q 0 s) := by
  obtain ⟨a, r, u⟩ := s
  obtain ⟨h1, h2, h3, h4⟩ := hs
  simp only at h1 h2 h3
  subst h1
  cases r with
  | nil =>
    cases u with
    | nil =>
      refine round0 (C := { gCf 0 [] [] [(20, .f)] with unr := fun j => if j = 6 then 1 else 0 }) (ctrs_ok ([]) rfl rfl) (by kernel_rfl) (by kernel_rfl) (q := decide ((↑a.length : Int) < (↑(List.map hstD (a ++ [])).length : Int)) = false ∧ ((∃ (a_1 : Unit), ptsOf (a ++ []) = [] ∧ D.str key = D.str key ∧ D.int IntKind.i64 n = D.int IntKind.i64 n ∧ D.sl true [] = D.sl true []) ∨ ∃ (a_1 : Pt × List Pt), ptsOf (a ++ []) = a_1.fst :: a_1.snd ∧ (D.str key = D.str key ∧ D.int IntKind.i64 n = D.int IntKind.i64 n ∧ D.ms (0 : Nat) (0 : Nat) (List.map ptD (a_1.fst :: a_1.snd)).length (List.map ptD (a_1.fst :: a_1.snd)).length false = D.sl true []) ∧ (some (Ob.row St.own (2 : Nat) (List.map ptD (a_1.fst :: a_1.snd))) = none ∨ some (Ob.row St.own (2 : Nat) (List.map ptD (a_1.fst :: a_1.snd))) = none ∧ False))) (by kernel_rfl) ?_
      have hA : (List.map hstD (a ++ [])).length = a.length := by simp
      exact ⟨decide_eq_false (by omega), .inl ⟨(), by rw [List.append_nil]; exact h3.symm, rfl, rfl, rfl⟩⟩
    | cons e es =>
      refine round0 (C := { gCf 0 [] [] [(20, .f)] with unr := fun j => if j = 6 then 1 else 0 }) (ctrs_ok ([]) rfl rfl) (by kernel_rfl) (by kernel_rfl) (q := decide ((↑a.length : Int) < (↑(List.map hstD (a ++ [])).length : Int)) = false ∧ ((∃ (a_1 : Unit), ptsOf (a ++ []) = [] ∧ D.str key = D.str key ∧ D.int IntKind.i64 n = D.int IntKind.i64 n ∧ D.sl true [] = D.any) ∨ ∃ (a_1 : Pt × List Pt), ptsOf (a ++ []) = a_1.fst :: a_1.snd ∧ (D.str key = D.str key ∧ D.int IntKind.i64 n = D.int IntKind.i64 n ∧ D.ms (0 : Nat) (0 : Nat) (List.map ptD (a_1.fst :: a_1.snd)).length (List.map ptD (a_1.fst :: a_1.snd)).length false = D.ms (0 : Nat) (0 : Nat) (List.map ptD (e :: es)).length (List.map ptD (e :: es)).length false) ∧ (some (Ob.row St.own (2 : Nat) (List.map ptD (a_1.fst :: a_1.snd))) = none ∨ some (Ob.row St.own (2 : Nat) (List.map ptD (a_1.fst :: a_1.snd))) = some (Ob.row St.own (2 : Nat) (List.map ptD (e :: es))) ∧ (List.map ptD (e :: es)).all D.pure = true))) (by kernel_rfl) ?_
      have hA : (List.map hstD (a ++ [])).length = a.length := by simp
      exact ⟨decide_eq_false (by omega), .inr ⟨(e, es), by rw [List.append_nil]; exact h3.symm, ⟨rfl, rfl, rfl⟩, .inr ⟨rfl, pure_ptD _⟩⟩⟩
  | cons x r =>
    cases u with
    | nil =>
      refine roundL (C := o3Cf key n f (a ++ x :: r) a.length x) (ctrs_ok (owC) rfl rfl) (by kernel_rfl) (l := [lp Tryd.f11 6]) (by kernel_rfl) ?_ (q := decide ((↑a.length : Int) < (↑(List.map hstD (a ++ x :: r)).length : Int)) = true ∧ ∃ (y : Hst), (0 : Int) ≤ (↑a.length : Int) ∧ (List.map hstD (a ++ x :: r))[(↑a.length : Int).toNat]? = some (D.agg [D.int IntKind.i64 y.id, D.str y.addr, D.int IntKind.i64 y.prio, D.str y.zone, D.int IntKind.i64 y.w, D.sl y.f (List.map pairQ y.mt)]) ∧ (y.addr.size ≤ (1152921504606846976 : Nat) ∧ (List.map pairQ y.mt).all D.pure = true) ∧ ∃ (b : List Int × List Int × List Pt), (b.fst ++ b.snd.fst = ptsV x.addr x.w ∧ (ptsV x.addr x.w).length ≤ (60 : Nat) ∧ b.snd.snd.length + b.snd.fst.length ≤ (100000 : Nat)) ∧ ((D.str key = D.str key ∧ D.int IntKind.i64 n = D.int IntKind.i64 n ∧ outD (0 : Nat) (List.map ptD b.snd.snd) = D.sl true [] ∧ D.ptr (1 : Nat) (0 : Nat) (0 : Nat) = D.ptr (1 : Nat) (0 : Nat) (0 : Nat) ∧ D.sl f (List.map hstD (a ++ x :: r)) = D.sl f (List.map hstD (a ++ x :: r)) ∧ D.int IntKind.i64 (↑(List.map hstD (a ++ x :: r)).length : Int) = D.int IntKind.i64 (↑(List.map hstD (a ++ x :: r)).length : Int) ∧ D.int IntKind.i64 (↑a.length : Int) = D.int IntKind.i64 (↑a.length : Int) ∧ D.sl (decide (x.w < (1 : Int) ∨ (20 : Int) < x.w)) (List.map uD (ptsV x.addr x.w)) = D.sl (decide (y.w < (1 : Int) ∨ (20 : Int) < y.w)) (List.map uD (ptsV y.addr y.w)) ∧ D.int IntKind.i64 (↑(List.map uD (ptsV x.addr x.w)).length : Int) = D.int IntKind.i64 (↑(List.map uD (ptsV y.addr y.w)).length : Int) ∧ D.int IntKind.i64 (↑b.fst.length : Int) = D.int IntKind.i64 (0 : Int)) ∧ (outO (2 : Nat) (List.map ptD b.snd.snd) = none ∨ outO (2 : Nat) (List.map ptD b.snd.snd) = none ∧ False) ∧ (some (Ob.row St.own (6 : Nat) [D.agg [D.int IntKind.i64 x.id, D.str x.addr, D.int IntKind.i64 x.prio, D.str x.zone, D.int IntKind.i64 x.w, D.sl x.f (List.map pairQ x.mt)]]) = none ∨ some (Ob.row St.own (6 : Nat) [D.agg [D.int IntKind.i64 x.id, D.str x.addr, D.int IntKind.i64 x.prio, D.str x.zone, D.int IntKind.i64 x.w, D.sl x.f (List.map pairQ x.mt)]]) = some (Ob.row St.own (6 : Nat) [D.agg [D.int IntKind.i64 y.id, D.str y.addr, D.int IntKind.i64 y.prio, D.str y.zone, D.int IntKind.i64 y.w, D.sl y.f (List.map pairQ y.mt)]]) ∧ true = true)) ∧ (∀ (a_1 : Unit), b.snd.snd ++ List.map (fun (u : Int) => (u, x.id)) b.snd.fst = [] → inK IntKind.i64 ((↑a.length : Int) + (1 : Int)) ∧ ∃ (s' : List Hst × List Hst × List Pt), (s'.fst ++ s'.snd.fst = a ++ x :: r ∧ (a ++ x :: r).length ≤ (1000 : Nat) ∧ s'.snd.snd = ptsOf s'.fst ∧ ∀ (h : Hst), List.Mem h (a ++ x :: r) → h.small) ∧ s'.snd.fst.length.succ ≤ (x :: r).length ∧ ptsOf (a ++ x :: r) = ptsOf (a ++ x :: r) ∧ (D.str key = D.str key ∧ D.int IntKind.i64 n = D.int IntKind.i64 n ∧ outD (0 : Nat) (List.map ptD s'.snd.snd) = D.sl true [] ∧ D.sl f (List.map hstD (a ++ x :: r)) = D.sl f (List.map hstD (a ++ x :: r)) ∧ D.int IntKind.i64 (↑(List.map hstD (a ++ x :: r)).length : Int) = D.int IntKind.i64 (↑(List.map hstD (a ++ x :: r)).length : Int) ∧ D.int IntKind.i64 (↑s'.fst.length : Int) = D.int IntKind.i64 ((↑a.length : Int) + (1 : Int))) ∧ (outO (2 : Nat) (List.map ptD s'.snd.snd) = none ∨ outO (2 : Nat) (List.map ptD s'.snd.snd) = none ∧ False)) ∧ ∀ (a_1 : Pt × List Pt), b.snd.snd ++ List.map (fun (u : Int) => (u, x.id)) b.snd.fst = a_1.fst :: a_1.snd → inK IntKind.i64 ((↑a.length : Int) + (1 : Int)) ∧ ∃ (s' : List Hst × List Hst × List Pt), (s'.fst ++ s'.snd.fst = a ++ x :: r ∧ (a ++ x :: r).length ≤ (1000 : Nat) ∧ s'.snd.snd = ptsOf s'.fst ∧ ∀ (h : Hst), List.Mem h (a ++ x :: r) → h.small) ∧ s'.snd.fst.length.succ ≤ (x :: r).length ∧ ptsOf (a ++ x :: r) = ptsOf (a ++ x :: r) ∧ (D.str key = D.str key ∧ D.int IntKind.i64 n = D.int IntKind.i64 n ∧ outD (0 : Nat) (List.map ptD s'.snd.snd) = D.ms (0 : Nat) (0 : Nat) (List.map ptD (a_1.fst :: a_1.snd)).length (List.map ptD (a_1.fst :: a_1.snd)).length false ∧ D.sl f (List.map hstD (a ++ x :: r)) = D.sl f (List.map hstD (a ++ x :: r)) ∧ D.int IntKind.i64 (↑(List.map hstD (a ++ x :: r)).length : Int) = D.int IntKind.i64 (↑(List.map hstD (a ++ x :: r)).length : Int) ∧ D.int IntKind.i64 (↑s'.fst.length : Int) = D.int IntKind.i64 ((↑a.length : Int) + (1 : Int))) ∧ (outO (2 : Nat) (List.map ptD s'.snd.snd) = none ∨ outO (2 : Nat) (List.map ptD s'.snd.snd) = some (Ob.row St.own (2 : Nat) (List.map ptD (a_1.fst :: a_1.snd))) ∧ (List.map ptD (a_1.fst :: a_1.snd)).all D.pure = true)) (by kernel_rfl) ?_
      · exact o6_fits key n f (a ++ x :: r) a.length x
      have hA : (List.map hstD (a ++ x :: r)).length = a.length + (r.length + 1) := by simp
      have h2' : a.length + (r.length + 1) ≤ 1000 := by rw [← hA, List.length_map]; exact h2
      have hx := h4 x (by simp)
      have hl := ptsOf_len a
      have hq := ptsV_len x.addr x.w
      have hz : ∀ z : List Pt, [] ++ List.map (fun u => (u, x.id)) (ptsV x.addr x.w) = z → z = ptsOf (a ++ [x]) := fun z hm => by rw [ptsOf_snoc, ← hm, ← h3]; rfl
      refine ⟨decide_eq_true (by omega), x, by omega, get_midI hstD a x r, ⟨by have := hx.1; omega, pure_pairQ _⟩, ([], ptsV x.addr x.w, []), ⟨rfl, hq, by rw [← h3] at hl; simp only [List.length_nil] at hl ⊢; omega⟩, ⟨⟨rfl, rfl, rfl, rfl, rfl, rfl, rfl, rfl, rfl, rfl⟩, .inl rfl, .inr ⟨rfl, rfl⟩⟩, fun _ hm => ⟨inkQ (by omega), (a ++ [x], r, []), ⟨by simp, h2, hz _ hm, h4⟩, Nat.le_refl _, rfl, ⟨rfl, rfl, rfl, rfl, rfl, by simp⟩, .inl rfl⟩, fun z hm => ⟨inkQ (by omega), (a ++ [x], r, z.1 :: z.2), ⟨by simp, h2, hz _ hm, h4⟩, Nat.le_refl _, rfl, ⟨rfl, rfl, rfl, rfl, rfl, by simp⟩, .inr ⟨rfl, pure_ptD _⟩⟩⟩
    | cons e es =>
      refine roundL (C := o3Cf key n f (a ++ x :: r) a.length x) (ctrs_ok (owC) rfl rfl) (by kernel_rfl) (l := [lp Tryd.f11 6]) (by kernel_rfl) ?_ (q := decide ((↑a.length : Int) < (↑(List.map hstD (a ++ x :: r)).length : Int)) = true ∧ ∃ (y : Hst), (0 : Int) ≤ (↑a.length : Int) ∧ (List.map hstD (a ++ x :: r))[(↑a.length : Int).toNat]? = some (D.agg [D.int IntKind.i64 y.id, D.str y.addr, D.int IntKind.i64 y.prio, D.str y.zone, D.int IntKind.i64 y.w, D.sl y.f (List.map pairQ y.mt)]) ∧ (y.addr.size ≤ (1152921504606846976 : Nat) ∧ (List.map pairQ y.mt).all D.pure = true) ∧ ∃ (b : List Int × List Int × List Pt), (b.fst ++ b.snd.fst = ptsV x.addr x.w ∧ (ptsV x.addr x.w).length ≤ (60 : Nat) ∧ b.snd.snd.length + b.snd.fst.length ≤ (100000 : Nat)) ∧ ((D.str key = D.str key ∧ D.int IntKind.i64 n = D.int IntKind.i64 n ∧ outD (0 : Nat) (List.map ptD b.snd.snd) = D.ms (0 : Nat) (0 : Nat) (List.map ptD (e :: es)).length (List.map ptD (e :: es)).length false ∧ D.ptr (1 : Nat) (0 : Nat) (0 : Nat) = D.ptr (1 : Nat) (0 : Nat) (0 : Nat) ∧ D.sl f (List.map hstD (a ++ x :: r)) = D.sl f (List.map hstD (a ++ x :: r)) ∧ D.int IntKind.i64 (↑(List.map hstD (a ++ x :: r)).length : Int) = D.int IntKind.i64 (↑(List.map hstD (a ++ x :: r)).length : Int) ∧ D.int IntKind.i64 (↑a.length : Int) = D.int IntKind.i64 (↑a.length : Int) ∧ D.sl (decide (x.w < (1 : Int) ∨ (20 : Int) < x.w)) (List.map uD (ptsV x.addr x.w)) = D.sl (decide (y.w < (1 : Int) ∨ (20 : Int) < y.w)) (List.map uD (ptsV y.addr y.w)) ∧ D.int IntKind.i64 (↑(List.map uD (ptsV x.addr x.w)).length : Int) = D.int IntKind.i64 (↑(List.map uD (ptsV y.addr y.w)).length : Int) ∧ D.int IntKind.i64 (↑b.fst.length : Int) = D.int IntKind.i64 (0 : Int)) ∧ (outO (2 : Nat) (List.map ptD b.snd.snd) = none ∨ outO (2 : Nat) (List.map ptD b.snd.snd) = some (Ob.row St.own (2 : Nat) (List.map ptD (e :: es))) ∧ (List.map ptD (e :: es)).all D.pure = true) ∧ (some (Ob.row St.own (6 : Nat) [D.agg [D.int IntKind.i64 x.id, D.str x.addr, D.int IntKind.i64 x.prio, D.str x.zone, D.int IntKind.i64 x.w, D.sl x.f (List.map pairQ x.mt)]]) = none ∨ some (Ob.row St.own (6 : Nat) [D.agg [D.int IntKind.i64 x.id, D.str x.addr, D.int IntKind.i64 x.prio, D.str x.zone, D.int IntKind.i64 x.w, D.sl x.f (List.map pairQ x.mt)]]) = some (Ob.row St.own (6 : Nat) [D.agg [D.int IntKind.i64 y.id, D.str y.addr, D.int IntKind.i64 y.prio, D.str y.zone, D.int IntKind.i64 y.w, D.sl y.f (List.map pairQ y.mt)]]) ∧ true = true)) ∧ (∀ (a_1 : Unit), b.snd.snd ++ List.map (fun (u : Int) => (u, x.id)) b.snd.fst = [] → inK IntKind.i64 ((↑a.length : Int) + (1 : Int)) ∧ ∃ (s' : List Hst × List Hst × List Pt), (s'.fst ++ s'.snd.fst = a ++ x :: r ∧ (a ++ x :: r).length ≤ (1000 : Nat) ∧ s'.snd.snd = ptsOf s'.fst ∧ ∀ (h : Hst), List.Mem h (a ++ x :: r) → h.small) ∧ s'.snd.fst.length.succ ≤ (x :: r).length ∧ ptsOf (a ++ x :: r) = ptsOf (a ++ x :: r) ∧ (D.str key = D.str key ∧ D.int IntKind.i64 n = D.int IntKind.i64 n ∧ outD (0 : Nat) (List.map ptD s'.snd.snd) = D.sl true [] ∧ D.sl f (List.map hstD (a ++ x :: r)) = D.sl f (List.map hstD (a ++ x :: r)) ∧ D.int IntKind.i64 (↑(List.map hstD (a ++ x :: r)).length : Int) = D.int IntKind.i64 (↑(List.map hstD (a ++ x :: r)).length : Int) ∧ D.int IntKind.i64 (↑s'.fst.length : Int) = D.int IntKind.i64 ((↑a.length : Int) + (1 : Int))) ∧ (outO (2 : Nat) (List.map ptD s'.snd.snd) = none ∨ outO (2 : Nat) (List.map ptD s'.snd.snd) = none ∧ False)) ∧ ∀ (a_1 : Pt × List Pt), b.snd.snd ++ List.map (fun (u : Int) => (u, x.id)) b.snd.fst = a_1.fst :: a_1.snd → inK IntKind.i64 ((↑a.length : Int) + (1 : Int)) ∧ ∃ (s' : List Hst × List Hst × List Pt), (s'.fst ++ s'.snd.fst = a ++ x :: r ∧ (a ++ x :: r).length ≤ (1000 : Nat) ∧ s'.snd.snd = ptsOf s'.fst ∧ ∀ (h : Hst), List.Mem h (a ++ x :: r) → h.small) ∧ s'.snd.fst.length.succ ≤ (x :: r).length ∧ ptsOf (a ++ x :: r) = ptsOf (a ++ x :: r) ∧ (D.str key = D.str key ∧ D.int IntKind.i64 n = D.int IntKind.i64 n ∧ outD (0 : Nat) (List.map ptD s'.snd.snd) = D.ms (0 : Nat) (0 : Nat) (List.map ptD (a_1.fst :: a_1.snd)).length (List.map ptD (a_1.fst :: a_1.snd)).length false ∧ D.sl f (List.map hstD (a ++ x :: r)) = D.sl f (List.map hstD (a ++ x :: r)) ∧ D.int IntKind.i64 (↑(List.map hstD (a ++ x :: r)).length : Int) = D.int IntKind.i64 (↑(List.map hstD (a ++ x :: r)).length : Int) ∧ D.int IntKind.i64 (↑s'.fst.length : Int) = D.int IntKind.i64 ((↑a.length : Int) + (1 : Int))) ∧ (outO (2 : Nat) (List.map ptD s'.snd.snd) = none ∨ outO (2 : Nat) (List.map ptD s'.snd.snd) = some (Ob.row St.own (2 : Nat) (List.map ptD (a_1.fst :: a_1.snd))) ∧ (List.map ptD (a_1.fst :: a_1.snd)).all D.pure = true)) (by kernel_rfl) ?_
      · exact o6_fits key n f (a ++ x :: r) a.length x
      have hA : (List.map hstD (a ++ x :: r)).length = a.length + (r.length + 1) := by simp
      have h2' : a.length + (r.length + 1) ≤ 1000 := by rw [← hA, List.length_map]; exact h2
      have hx := h4 x (by simp)
      have hl := ptsOf_len a
      have hq := ptsV_len x.addr x.w
      have hz : ∀ z : List Pt, (e :: es) ++ List.map (fun u => (u, x.id)) (ptsV x.addr x.w) = z → z = ptsOf (a ++ [x]) := fun z hm => by rw [ptsOf_snoc, ← hm, ← h3]; rfl
      refine ⟨decide_eq_true (by omega), x, by omega, get_midI hstD a x r, ⟨by have := hx.1; omega, pure_pairQ _⟩, ([], ptsV x.addr x.w, e :: es), ⟨rfl, hq, by rw [← h3] at hl; simp only [List.length_nil] at hl ⊢; omega⟩, ⟨⟨rfl, rfl, rfl, rfl, rfl, rfl, rfl, rfl, rfl, rfl⟩, .inr ⟨rfl, pure_ptD _⟩, .inr ⟨rfl, rfl⟩⟩, fun _ hm => ⟨inkQ (by omega), (a ++ [x], r, []), ⟨by simp, h2, hz _ hm, h4⟩, Nat.le_refl _, rfl, ⟨rfl, rfl, rfl, rfl, rfl, by simp⟩, .inl rfl⟩, fun z hm => ⟨inkQ (by omega), (a ++ [x], r, z.1 :: z.2), ⟨by simp, h2, hz _ hm, h4⟩, Nat.le_refl _, rfl, ⟨rfl, rfl, rfl, rfl, rfl, by simp⟩, .inr ⟨rfl, pure_ptD _⟩⟩⟩
end Go.Proofs.YtfclelafcdcilaaDoor.Dv
