/- eject.First. -/
import Derived.Test.YtfclelafcdcilaaR4
set_option linter.unusedVariables false
set_option linter.unusedSimpArgs false
namespace Go.Proofs.Ytfclelafcdcilaa.Dv
open Go Go.Proofs
theorem outD_ofQ {id n : Nat} : ∀ {l : List D}, l.length = n + 1 → outD id l = .ms id 0 (n + 1) (n + 1) false
  | [], h => by simp at h
  | x :: l, h => by unfold outD; rw [h]
theorem outO_ofQ {sz : Nat} : ∀ {l : List D}, l ≠ [] → outO sz l = some (.row .own sz l)
  | [], h => absurd rfl h
  | x :: l, h => rfl
theorem oDi (id : Nat) (us : List Int) (k : Int) : outD id (List.map iD (us ++ [k])) = .ms id 0 ((List.map iD us).length + 1) ((List.map iD us).length + 1) false := outD_ofQ (by rw [List.map_append, List.length_append]; rfl)
theorem oRi (us : List Int) (k : Int) : outO 1 (List.map iD (us ++ [k])) = some (.row .own 1 (List.take (List.map iD us).length (List.map iD us) ++ [iD k])) ∧ (List.take (List.map iD us).length (List.map iD us) ++ [iD k]).all D.pure = true := by
  have e : List.take (List.map iD us).length (List.map iD us) ++ [iD k] = List.map iD (us ++ [k]) := by rw [List.take_length, List.map_append]; rfl
  rw [e]
  exact ⟨outO_ofQ (by simp), pure_iD _⟩
def idT (x : Tm) : Int := x.2.2
/-- the ids of the first m of the row S. -/
def fi (S : List Tm) (m c : Nat) : WLoop :=
  { St := List Tm × List Tm
    O := List Int
    T := fun s => [(6, outD 1 ((s.1.map idT).map iD)), (18, .ms 0 0 m c false), (19, .int .i64 m), (20, .int .i64 s.1.length)]
    S := fun s => [some (.row .own 3 (S.map tmD)), outO 1 ((s.1.map idT).map iD)]
    ok := fun s => s.1 ++ s.2 = S ∧ s.1.length ≤ m ∧ m ≤ S.length ∧ m ≤ 100000
    μ := fun s => m - s.1.length
    m := fun s => (S.take m).map idT
    src := [(0, true), (4, true)]
    outs := [{ α := Unit, is := fun o _ => o = [], ex := .exit 0, src := [], T := fun _ => [(6, .sl true [])] },
      { α := Int × List Int, is := fun o z => o = z.1 :: z.2, ex := .exit 0, src := [(1, true)], T := fun z => [(6, outD 0 ((z.1 :: z.2).map iD))], S := fun z => [outO 1 ((z.1 :: z.2).map iD)] }] }
theorem fiR (S : List Tm) (m c : Nat) (s : (fi S m c).St) (hs : (fi S m c).ok s) : Tri Try.prog 0 31 (lp Try.f21 4) (tb ((fi S m c).T s)) ((fi S m c).S s) ((fi S m c).q 0 s) := by
  obtain ⟨a, r⟩ := s
  obtain ⟨h1, h2, h3, h4⟩ := hs
  simp only at h1 h2 h3
  have hN : a.length + r.length = S.length := by rw [← h1]; simp
  by_cases hm : a.length = m
  · have ht : S.take m = a := by rw [← h1]; exact List.take_left' hm
    cases a with
    | nil =>
      refine round0 (C := tCf 0 [] [] [(21, .f)]) (ctrs_ok ([]) rfl rfl) (by kernel_rfl) (by kernel_rfl) (q := decide ((0 : Int) < (↑m : Int)) = false ∧ ((∃ (a : Unit), List.map idT (List.take m S) = [] ∧ D.sl true [] = D.sl true []) ∨ ∃ (a : Int × List Int), List.map idT (List.take m S) = a.fst :: a.snd ∧ D.ms (0 : Nat) (0 : Nat) (List.map iD (a.fst :: a.snd)).length (List.map iD (a.fst :: a.snd)).length false = D.sl true [] ∧ (some (Ob.row St.own (1 : Nat) (List.map iD (a.fst :: a.snd))) = none ∨ some (Ob.row St.own (1 : Nat) (List.map iD (a.fst :: a.snd))) = none ∧ False))) (by kernel_rfl) ?_
      have hm0 : m = 0 := hm.symm
      exact ⟨decide_eq_false (by omega), .inl ⟨(), by rw [ht]; rfl, rfl⟩⟩
    | cons e es =>
      refine round0 (C := tCf 0 [] [] [(21, .f)]) (ctrs_ok ([]) rfl rfl) (by kernel_rfl) (by kernel_rfl) (q := decide ((↑(e :: es).length : Int) < (↑m : Int)) = false ∧ ((∃ (a : Unit), List.map idT (List.take m S) = [] ∧ D.sl true [] = D.any) ∨ ∃ (a : Int × List Int), List.map idT (List.take m S) = a.fst :: a.snd ∧ D.ms (0 : Nat) (0 : Nat) (List.map iD (a.fst :: a.snd)).length (List.map iD (a.fst :: a.snd)).length false = D.ms (0 : Nat) (0 : Nat) (List.map iD (List.map idT (e :: es))).length (List.map iD (List.map idT (e :: es))).length false ∧ (some (Ob.row St.own (1 : Nat) (List.map iD (a.fst :: a.snd))) = none ∨ some (Ob.row St.own (1 : Nat) (List.map iD (a.fst :: a.snd))) = some (Ob.row St.own (1 : Nat) (List.map iD (List.map idT (e :: es)))) ∧ (List.map iD (List.map idT (e :: es))).all D.pure = true))) (by kernel_rfl) ?_
      exact ⟨decide_eq_false (by omega), .inr ⟨(idT e, es.map idT), by rw [ht]; rfl, rfl, .inr ⟨rfl, pure_iD _⟩⟩⟩
  · cases r with
    | nil => simp at hN; omega
    | cons x r =>
      cases a with
      | nil =>
        refine round0 (C := tCf 0 [] [] [(21, .t)]) (ctrs_ok ([]) rfl rfl) (by kernel_rfl) (by kernel_rfl) (q := decide ((0 : Int) < (↑m : Int)) = true ∧ (0 : Int) ≤ (0 : Int) ∧ (0 : Int) < (↑m : Int) ∧ ∃ (x : Int × Int × Int), (List.map tmD S)[(0 : Nat)]? = some (D.agg [D.int IntKind.i64 x.fst, D.int IntKind.i64 x.snd.fst, D.int IntKind.i64 x.snd.snd]) ∧ inK IntKind.i64 ((0 : Int) + (1 : Int)) ∧ ∃ (s' : List Tm × List Tm), (s'.fst ++ s'.snd = S ∧ s'.fst.length ≤ m ∧ m ≤ S.length ∧ m ≤ (100000 : Nat)) ∧ (m - s'.fst.length).succ ≤ m - (0 : Nat) ∧ List.map idT (List.take m S) = List.map idT (List.take m S) ∧ (outD (1 : Nat) (List.map iD (List.map idT s'.fst)) = D.ms (1 : Nat) (0 : Nat) (1 : Nat) (1 : Nat) false ∧ D.ms (0 : Nat) (0 : Nat) m c false = D.ms (0 : Nat) (0 : Nat) m c false ∧ D.int IntKind.i64 (↑m : Int) = D.int IntKind.i64 (↑m : Int) ∧ D.int IntKind.i64 (↑s'.fst.length : Int) = D.int IntKind.i64 ((0 : Int) + (1 : Int))) ∧ (some (Ob.row St.own (3 : Nat) (List.map tmD S)) = none ∨ some (Ob.row St.own (3 : Nat) (List.map tmD S)) = some (Ob.row St.own (3 : Nat) (List.map tmD S)) ∧ (List.map tmD S).all D.pure = true) ∧ (outO (1 : Nat) (List.map iD (List.map idT s'.fst)) = none ∨ outO (1 : Nat) (List.map iD (List.map idT s'.fst)) = some (Ob.row St.own (1 : Nat) [D.int IntKind.i64 x.snd.snd]) ∧ true = true)) (by kernel_rfl) ?_
        have hm0 : m ≠ 0 := fun e => hm e.symm
        refine ⟨decide_eq_true (by omega), by omega, by omega, x, by rw [← h1]; rfl, inkQ (by omega), ([x], r), ⟨h1, by show 1 ≤ m; omega, h3, h4⟩, by show (m - 1).succ ≤ m - 0; omega, rfl, ⟨rfl, rfl, rfl, rfl⟩, .inr ⟨rfl, pure_tmD _⟩, .inr ⟨rfl, rfl⟩⟩
      | cons e es =>
        refine round0 (C := tCf 0 [] [] [(21, .t)]) (ctrs_ok ([]) rfl rfl) (by kernel_rfl) (by kernel_rfl) (q := decide ((↑(e :: es).length : Int) < (↑m : Int)) = true ∧ (0 : Int) ≤ (↑(e :: es).length : Int) ∧ (↑(e :: es).length : Int) < (↑m : Int) ∧ ∃ (x : Int × Int × Int), (List.map tmD S)[(0 : Nat) + (↑(e :: es).length : Int).toNat]? = some (D.agg [D.int IntKind.i64 x.fst, D.int IntKind.i64 x.snd.fst, D.int IntKind.i64 x.snd.snd]) ∧ (0 : Nat) + (List.map iD (List.map idT (e :: es))).length ≤ (List.map iD (List.map idT (e :: es))).length ∧ (List.map iD (List.map idT (e :: es))).length ≤ (List.map iD (List.map idT (e :: es))).length ∧ ((List.map iD (List.map idT (e :: es))).length + (1 : Nat)) * (8 : Nat) ≤ (140737488355328 : Nat) ∧ (List.map iD (List.map idT (e :: es))).length.succ ≤ (List.map iD (List.map idT (e :: es))).length + (1 : Nat) ∧ (0 : Nat) = (0 : Nat) ∧ inK IntKind.i64 ((↑(e :: es).length : Int) + (1 : Int)) ∧ ∃ (s' : List Tm × List Tm), (s'.fst ++ s'.snd = S ∧ s'.fst.length ≤ m ∧ m ≤ S.length ∧ m ≤ (100000 : Nat)) ∧ (m - s'.fst.length).succ ≤ m - (e :: es).length ∧ List.map idT (List.take m S) = List.map idT (List.take m S) ∧ (outD (1 : Nat) (List.map iD (List.map idT s'.fst)) = D.ms (1 : Nat) (0 : Nat) ((List.map iD (List.map idT (e :: es))).length + (1 : Nat)) ((List.map iD (List.map idT (e :: es))).length + (1 : Nat)) false ∧ D.ms (0 : Nat) (0 : Nat) m c false = D.ms (0 : Nat) (0 : Nat) m c false ∧ D.int IntKind.i64 (↑m : Int) = D.int IntKind.i64 (↑m : Int) ∧ D.int IntKind.i64 (↑s'.fst.length : Int) = D.int IntKind.i64 ((↑(e :: es).length : Int) + (1 : Int))) ∧ (some (Ob.row St.own (3 : Nat) (List.map tmD S)) = none ∨ some (Ob.row St.own (3 : Nat) (List.map tmD S)) = some (Ob.row St.own (3 : Nat) (List.map tmD S)) ∧ (List.map tmD S).all D.pure = true) ∧ (outO (1 : Nat) (List.map iD (List.map idT s'.fst)) = none ∨ outO (1 : Nat) (List.map iD (List.map idT s'.fst)) = some (Ob.row St.own (1 : Nat) (List.take (List.map iD (List.map idT (e :: es))).length (List.map iD (List.map idT (e :: es))) ++ [D.int IntKind.i64 x.snd.snd])) ∧ (List.take (List.map iD (List.map idT (e :: es))).length (List.map iD (List.map idT (e :: es))) ++ [D.int IntKind.i64 x.snd.snd]).all D.pure = true)) (by kernel_rfl) ?_
        have hL : (List.map iD (List.map idT (e :: es))).length = (e :: es).length := by rw [List.length_map, List.length_map]
        have hg : (List.map tmD S)[0 + (((e :: es).length : Int)).toNat]? = some (tmD x) := by rw [Nat.zero_add, ← h1]; exact get_midI tmD (e :: es) x r
        have h2' : (e :: es).length ≤ m := h2
        refine ⟨decide_eq_true (by omega), by omega, by omega, x, hg, by omega, Nat.le_refl _, by omega, Nat.le_refl _, rfl, inkQ (by omega), ((e :: es) ++ [x], r), ⟨by rw [← h1]; simp, by rw [List.length_append]; show _ + 1 ≤ m; omega, h3, h4⟩, by rw [List.length_append]; show (m - (_ + 1)).succ ≤ _; omega, rfl, ⟨by rw [List.map_append]; exact oDi 1 (List.map idT (e :: es)) (idT x), rfl, rfl, by rw [List.length_append]; simp⟩, .inr ⟨rfl, pure_tmD _⟩, .inr (by rw [List.map_append]; exact oRi (List.map idT (e :: es)) (idT x))⟩
def frM (k : Int) (n : Nat) : Nat := (min (max k 0) (n : Int)).toNat
noncomputable def frV (l : List Tm) (k : Int) : List Int := ((srtV cT l).take (frM k l.length)).map idT
noncomputable def frCf (l : List Tm) (k : Int) : WCfg := { tCf 0 [] [vlC, sdC] [] with loops := fun j => match j with | 4 => some ((fi (srtV cT l) (frM k l.length) l.length).row [(1, true), (1000, true)]) | _ => none }
theorem frN (f : Bool) (l : List Tm) (k : Int) (h1 : l ≠ []) (h2 : l.length ≤ 1000) : (∃ (l_1 : List Tm), List.map tmD l = List.map tmD l_1) ∧ ((List.map tmD l = [] → False) ∧ (∃ (l_1 : List Tm), List.map tmD l = List.map tmD l_1) ∧ (List.map tmD l).length ≤ (100000 : Nat)) ∧ (0 : Int) ≤ min (max k (0 : Int)) (↑(List.map tmD l).length : Int) ∧ (0 : Nat) ≤ (min (max k (0 : Int)) (↑(List.map tmD l).length : Int)).toNat ∧ (min (max k (0 : Int)) (↑(List.map tmD l).length : Int)).toNat ≤ (List.map tmD l).length ∧ ∃ (b : List Tm × List Tm), (b.fst ++ b.snd = srtV cT l ∧ b.fst.length ≤ frM k l.length ∧ frM k l.length ≤ (srtV cT l).length ∧ frM k l.length ≤ (100000 : Nat)) ∧ ((outD (1 : Nat) (List.map iD (List.map idT b.fst)) = D.sl true [] ∧ D.ms (0 : Nat) (0 : Nat) (frM k l.length) l.length false = D.ms (0 : Nat) (0 : Nat) ((min (max k (0 : Int)) (↑(List.map tmD l).length : Int)).toNat - (0 : Nat)) ((List.map tmD l).length - (0 : Nat)) false ∧ D.int IntKind.i64 (↑(frM k l.length) : Int) = D.int IntKind.i64 (↑((min (max k (0 : Int)) (↑(List.map tmD l).length : Int)).toNat - (0 : Nat)) : Int) ∧ D.int IntKind.i64 (↑b.fst.length : Int) = D.int IntKind.i64 (0 : Int)) ∧ (some (Ob.row St.own (3 : Nat) (List.map tmD (srtV cT l))) = none ∨ some (Ob.row St.own (3 : Nat) (List.map tmD (srtV cT l))) = some (Ob.row St.own (3 : Nat) (List.map tmD (srtV cT (List.map dTm (List.map tmD l))))) ∧ (List.map tmD (srtV cT (List.map dTm (List.map tmD l)))).all D.pure = true) ∧ (outO (1 : Nat) (List.map iD (List.map idT b.fst)) = none ∨ outO (1 : Nat) (List.map iD (List.map idT b.fst)) = none ∧ False)) ∧ (∀ (a : Unit), List.map idT (List.take (frM k l.length) (srtV cT l)) = [] → D.sl true [] = D.sl (frV l k).isEmpty (List.map iD (frV l k))) ∧ ∀ (a : Int × List Int), List.map idT (List.take (frM k l.length) (srtV cT l)) = a.fst :: a.snd → (0 : Nat) + (List.map iD (a.fst :: a.snd)).length ≤ (List.map iD (a.fst :: a.snd)).length ∧ (List.take (List.map iD (a.fst :: a.snd)).length (List.drop (0 : Nat) (List.map iD (a.fst :: a.snd)))).all D.pure = true ∧ D.sl false (List.take (List.map iD (a.fst :: a.snd)).length (List.drop (0 : Nat) (List.map iD (a.fst :: a.snd)))) = D.sl (frV l k).isEmpty (List.map iD (frV l k)) := by
  have hL : (List.map tmD l).length = l.length := List.length_map ..
  have hS : (srtV cT l).length = l.length := srtV_len swoT l
  have hm : frM k l.length ≤ l.length := by unfold frM; omega
  have hmm : (min (max k 0) (((List.map tmD l).length : Nat) : Int)).toNat = frM k l.length := by rw [hL]; rfl
  rw [hmm, hL, map_dTm]
  refine ⟨⟨l, rfl⟩, ⟨fun h => h1 (List.map_eq_nil_iff.1 h), ⟨l, rfl⟩, by omega⟩, by omega, by omega, hm, ([], srtV cT l), ⟨rfl, Nat.zero_le _, by omega, by omega⟩, ⟨⟨rfl, rfl, rfl, rfl⟩, .inr ⟨rfl, pure_tmD _⟩, .inl rfl⟩, fun _ h => ?_, fun z h => ?_⟩
  · have hv : frV l k = [] := h
    rw [hv]; rfl
  · have hv : frV l k = z.1 :: z.2 := h
    rw [hv, List.drop_zero, List.take_length]
    exact ⟨by omega, pure_iD _, rfl⟩
noncomputable def frCf0 : WCfg := { tCf 0 [] [vlC, sdC0] [(21, .f)] with unr := fun j => if j = 4 then 1 else 0 }
theorem frN0 (f : Bool) (k : Int) : (∃ (l : List Tm), nilT D = List.map tmD l) ∧ nilT D = [] ∧ (0 : Int) ≤ min (max k (0 : Int)) (0 : Int) ∧ (0 : Nat) ≤ (min (max k (0 : Int)) (0 : Int)).toNat ∧ (min (max k (0 : Int)) (0 : Int)).toNat ≤ (0 : Nat) ∧ ((List.drop (0 : Nat) (List.take (min (max k (0 : Int)) (0 : Int)).toNat (nilT D))).all fun (y : D) => y.cells.length == (ti Try.prog (75 : Nat)).sz) = true ∧ decide ((0 : Int) < (↑(List.drop (0 : Nat) (List.take (min (max k (0 : Int)) (0 : Int)).toNat (nilT D))).length : Int)) = false ∧ D.sl true [] = D.sl true [] := by
  have h0 : (min (max k 0) 0).toNat = 0 := by omega
  rw [h0]
  exact ⟨⟨[], rfl⟩, rfl, by omega, by omega, by omega, rfl, rfl, rfl⟩
noncomputable def frS (vs : List D) : Option DOut := match vs with | [.sl f xs, .int .i64 k] => some ⟨∃ l : List Tm, xs = l.map tmD ∧ l.length ≤ 1000, .sl (frV (xs.map dTm) k).isEmpty ((frV (xs.map dTm) k).map iD)⟩ | _ => none
/-- eject.First. -/
noncomputable def frC : Ctr := ⟨21, frS, by
  intro vs o ho hp
  unfold frS at ho
  split at ho
  · rename_i f xs k
    injection ho with ho; subst ho
    obtain ⟨l, rfl, h1⟩ := hp
    simp only
    rw [map_dTm]
    by_cases h0 : l = []
    · subst h0
      have hv : frV [] k = [] := by
        have : srtV cT ([] : List Tm) = [] := List.length_eq_zero_iff.1 (srtV_len swoT [])
        unfold frV; rw [this]; simp
      rw [hv]
      exact dataFun0 (C := frCf0) (ctrsR_ok [] [vlC, sdC0] rfl rfl rfl rfl) rfl Try.func21 (by kernel_rfl) (by kernel_rfl) (by kernel_rfl) rfl (by kernel_rfl) (frN0 f k)
    · exact dataFunL (C := frCf l k) (ctrsR_ok [] [vlC, sdC] rfl rfl rfl rfl) rfl Try.func21 (by kernel_rfl) (l := [lp Try.f21 4]) (by kernel_rfl) (fun x hx => by
        rw [List.mem_singleton.1 hx]; exact (fi (srtV cT l) (frM k l.length) l.length).fits 4 [(1, true), (1000, true)] (by kernel_rfl) rfl (fiR (srtV cT l) (frM k l.length) l.length)) (by kernel_rfl) rfl (by kernel_rfl) (frN f l k h0 h1)
  · cases ho⟩
theorem fr_len (l : List Tm) (k : Int) : ((frV l k).length : Int) = min (max k 0) l.length := by
  unfold frV frM
  rw [List.length_map, List.length_take, srtV_len swoT]
  omega
theorem fr_pre (l : List Tm) (k : Int) : frV l k <+: frV l l.length := by
  unfold frV
  have : frM l.length l.length = l.length := by unfold frM; omega
  rw [this, show List.take l.length (srtV cT l) = srtV cT l from List.take_of_length_le (by rw [srtV_len swoT]; omega)]
  exact (List.take_prefix _ _).map idT
end Go.Proofs.Ytfclelafcdcilaa.Dv
