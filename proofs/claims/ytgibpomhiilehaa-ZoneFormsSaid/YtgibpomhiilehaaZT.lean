/- The pages' shares of zones (triageref10.ZoneShares), whole. -/
import Derived.Test.YtgibpomhiilehaaZS
set_option linter.unusedVariables false
set_option linter.unusedSimpArgs false
namespace Go.Proofs.Ytgibpomhiilehaa.Dv
open Go Go.Proofs
def sprC2' : Ctr := ⟨53, sprS2, by
  intro vs o ho hp
  unfold sprS2 at ho
  split at ho
  · rename_i t f ys
    injection ho with ho; subst ho
    obtain ⟨h1, l, rfl, h2, h3⟩ := hp
    exact sprC'.ok [.int .i64 t, .sl f (l.map iD)] ⟨rI t ∧ l.map iD = ((l.map iD).map dI).map iD ∧ (∀ p ∈ (l.map iD).map dI, rI p) ∧ (l.map iD).length ≤ 100, .sl true ((spreadV t ((l.map iD).map dI)).map iD)⟩ rfl ⟨h1, by rw [map_dI], by rw [map_dI]; exact h2, by rw [List.length_map]; exact h3⟩
  · cases ho⟩
def z3 (n h : Nat) (ev : Int) (U O M : List Int) : WLoop :=
  { St := Nat
    O := Unit
    T := fun i => [(6, .int .i64 h), (9, .int .i64 ev), (10, .ms 0 0 n n false), (11, .ms 1 0 n n false), (12, .ms 2 0 n n false), (16, .ms 3 0 n n true), (97, .int .i64 n), (98, .int .i64 i)]
    S := fun i => [some (.row .own 1 (U.map iD)), some (.row .own 1 (O.map iD)), some (.row .own 1 (M.map iD)), some (.row .own 2 ((sh0 n i).map shD))]
    ok := fun i => i ≤ n ∧ n ≤ 1000
    μ := fun i => n - i
    m := fun _ => ()
    src := [(0, true), (1, true), (2, true), (3, true)]
    outs := [{ α := Unit, is := fun _ _ => True, ex := .exit 4, src := [(0, true), (1, true), (2, true), (3, true)], T := fun _ => [(6, .int .i64 h), (9, .int .i64 ev), (10, .ms 0 0 n n false), (11, .ms 1 0 n n false), (12, .ms 2 0 n n false), (16, .ms 3 0 n n true)], S := fun _ => [some (.row .own 1 (U.map iD)), some (.row .own 1 (O.map iD)), some (.row .own 1 (M.map iD)), some (.row .own 2 ((sh0 n n).map shD))] }] }
theorem z3R (n h : Nat) (ev : Int) (U O M : List Int) (i : Nat) (hs : (z3 n h ev U O M).ok i) : Tri Try.prog 0 155 (lp Try.f24 24) (tb ((z3 n h ev U O M).T i)) ((z3 n h ev U O M).S i) ((z3 n h ev U O M).q 0 i) := by
  obtain ⟨h1, h2⟩ := hs
  refine round0 (C := nCfg 0 [] [] []) (ctrs_ok ([]) rfl rfl) (by kernel_rfl) (by kernel_rfl) (q := (decide ((↑i : Int) < (↑n : Int)) = true → (0 : Int) ≤ (↑i : Int) ∧ (↑i : Int) < (↑n : Int) ∧ ∃ (x : Int × Int), (List.map shD (sh0 n i))[(0 : Nat) + (↑i : Int).toNat]? = some (D.agg [D.int IntKind.i64 x.fst, D.int IntKind.i64 x.snd]) ∧ inK IntKind.i64 ((↑i : Int) + (1 : Int)) ∧ ∃ (s' : Nat), (s' ≤ n ∧ n ≤ (1000 : Nat)) ∧ (n - s').succ ≤ n - i ∧ () = () ∧ (D.int IntKind.i64 (↑h : Int) = D.int IntKind.i64 (↑h : Int) ∧ D.int IntKind.i64 ev = D.int IntKind.i64 ev ∧ D.ms (0 : Nat) (0 : Nat) n n false = D.ms (0 : Nat) (0 : Nat) n n false ∧ D.ms (1 : Nat) (0 : Nat) n n false = D.ms (1 : Nat) (0 : Nat) n n false ∧ D.ms (2 : Nat) (0 : Nat) n n false = D.ms (2 : Nat) (0 : Nat) n n false ∧ D.ms (3 : Nat) (0 : Nat) n n true = D.ms (3 : Nat) (0 : Nat) n n true ∧ D.int IntKind.i64 (↑n : Int) = D.int IntKind.i64 (↑n : Int) ∧ D.int IntKind.i64 (↑s' : Int) = D.int IntKind.i64 ((↑i : Int) + (1 : Int))) ∧ (some (Ob.row St.own (1 : Nat) (List.map iD U)) = none ∨ some (Ob.row St.own (1 : Nat) (List.map iD U)) = some (Ob.row St.own (1 : Nat) (List.map iD U)) ∧ (List.map iD U).all D.pure = true) ∧ (some (Ob.row St.own (1 : Nat) (List.map iD O)) = none ∨ some (Ob.row St.own (1 : Nat) (List.map iD O)) = some (Ob.row St.own (1 : Nat) (List.map iD O)) ∧ (List.map iD O).all D.pure = true) ∧ (some (Ob.row St.own (1 : Nat) (List.map iD M)) = none ∨ some (Ob.row St.own (1 : Nat) (List.map iD M)) = some (Ob.row St.own (1 : Nat) (List.map iD M)) ∧ (List.map iD M).all D.pure = true) ∧ (some (Ob.row St.own (2 : Nat) (List.map shD (sh0 n s'))) = none ∨ some (Ob.row St.own (2 : Nat) (List.map shD (sh0 n s'))) = some (Ob.row St.own (2 : Nat) ((List.map shD (sh0 n i)).set ((0 : Nat) + (↑i : Int).toNat) (D.agg [D.int IntKind.i64 (↑i : Int), D.int IntKind.i64 x.snd]))) ∧ ((List.map shD (sh0 n i)).set ((0 : Nat) + (↑i : Int).toNat) (D.agg [D.int IntKind.i64 (↑i : Int), D.int IntKind.i64 x.snd])).all D.pure = true)) ∧ (decide ((↑i : Int) < (↑n : Int)) = false → ∃ (a : Unit), True ∧ (D.int IntKind.i64 (↑h : Int) = D.int IntKind.i64 (↑h : Int) ∧ D.int IntKind.i64 ev = D.int IntKind.i64 ev ∧ D.ms (0 : Nat) (0 : Nat) n n false = D.ms (0 : Nat) (0 : Nat) n n false ∧ D.ms (1 : Nat) (0 : Nat) n n false = D.ms (1 : Nat) (0 : Nat) n n false ∧ D.ms (2 : Nat) (0 : Nat) n n false = D.ms (2 : Nat) (0 : Nat) n n false ∧ D.ms (3 : Nat) (0 : Nat) n n true = D.ms (3 : Nat) (0 : Nat) n n true) ∧ (some (Ob.row St.own (1 : Nat) (List.map iD U)) = none ∨ some (Ob.row St.own (1 : Nat) (List.map iD U)) = some (Ob.row St.own (1 : Nat) (List.map iD U)) ∧ (List.map iD U).all D.pure = true) ∧ (some (Ob.row St.own (1 : Nat) (List.map iD O)) = none ∨ some (Ob.row St.own (1 : Nat) (List.map iD O)) = some (Ob.row St.own (1 : Nat) (List.map iD O)) ∧ (List.map iD O).all D.pure = true) ∧ (some (Ob.row St.own (1 : Nat) (List.map iD M)) = none ∨ some (Ob.row St.own (1 : Nat) (List.map iD M)) = some (Ob.row St.own (1 : Nat) (List.map iD M)) ∧ (List.map iD M).all D.pure = true) ∧ (some (Ob.row St.own (2 : Nat) (List.map shD (sh0 n n))) = none ∨ some (Ob.row St.own (2 : Nat) (List.map shD (sh0 n n))) = some (Ob.row St.own (2 : Nat) (List.map shD (sh0 n i))) ∧ (List.map shD (sh0 n i)).all D.pure = true))) (by kernel_rfl) ?_
  refine ⟨fun hlt => ?_, fun hge => ?_⟩
  · have hlt : i < n := by have := of_decide_eq_true hlt; omega
    refine ⟨by omega, by omega, (0, 0), ?_, ink (by omega), i + 1, ⟨by omega, h2⟩, by omega, rfl, ?_, .inr ⟨rfl, pure_iD _⟩, .inr ⟨rfl, pure_iD _⟩, .inr ⟨rfl, pure_iD _⟩, .inr ⟨?_, ?_⟩⟩
    · unfold sh0
      rw [sget _ hlt]
      simp
    · repeat' apply And.intro
      all_goals rfl
    · unfold sh0
      rw [sset]
      congr 3
      refine tab_congr fun k hk => ?_
      by_cases h : k = i
      · subst h; simp
      · have : (k < i + 1) = (k < i) := by apply propext; omega
        simp only [this, if_neg h]
    · unfold sh0
      rw [sset]
      exact pure_shD' _
  · have hin : i = n := by have := of_decide_eq_false hge; omega
    subst hin
    refine ⟨(), trivial, ?_, .inr ⟨rfl, pure_iD _⟩, .inr ⟨rfl, pure_iD _⟩, .inr ⟨rfl, pure_iD _⟩, .inr ⟨rfl, pure_shD' _⟩⟩
    repeat' apply And.intro
    all_goals rfl
def fin4 (n : Nat) (parts : List Int) (k : Nat) : List Shr := tab n fun i => ((i : Int), if i < k then parts.getD i 0 else 0)
def z4 (n h : Nat) (mine : Int) (parts : List Int) : WLoop :=
  { St := Nat
    O := Unit
    T := fun k => [(6, .int .i64 h), (16, .ms 0 0 n n true), (18, .int .i64 mine), (136, .sl true (parts.map iD)), (137, .int .i64 (parts.map iD).length), (138, .int .i64 k)]
    S := fun k => [some (.row .own 2 ((fin4 n parts k).map shD))]
    ok := fun k => k ≤ parts.length ∧ parts.length ≤ n ∧ n ≤ 1000
    μ := fun k => parts.length - k
    m := fun _ => ()
    src := [(0, true)]
    outs := [{ α := Unit, is := fun _ _ => True, ex := .exit 6, src := [(0, true)], T := fun _ => [(6, .int .i64 h), (16, .ms 0 0 n n true), (18, .int .i64 mine)], S := fun _ => [some (.row .own 2 ((fin4 n parts parts.length).map shD))] }] }
theorem z4R (n h : Nat) (mine : Int) (parts : List Int) (k : Nat) (hs : (z4 n h mine parts).ok k) : Tri Try.prog 0 155 (lp Try.f24 35) (tb ((z4 n h mine parts).T k)) ((z4 n h mine parts).S k) ((z4 n h mine parts).q 0 k) := by
  obtain ⟨h1, h2, h3⟩ := hs
  refine round0 (C := nCfg 0 [] [] []) (ctrs_ok ([]) rfl rfl) (by kernel_rfl) (by kernel_rfl) (q := (decide ((↑k : Int) < (↑(List.map iD parts).length : Int)) = true → ∃ (y : Int), (0 : Int) ≤ (↑k : Int) ∧ (List.map iD parts)[(↑k : Int).toNat]? = some (D.int IntKind.i64 y) ∧ (0 : Int) ≤ (↑k : Int) ∧ (↑k : Int) < (↑n : Int) ∧ ∃ (x : Int × Int), (List.map shD (fin4 n parts k))[(0 : Nat) + (↑k : Int).toNat]? = some (D.agg [D.int IntKind.i64 x.fst, D.int IntKind.i64 x.snd]) ∧ inK IntKind.i64 ((↑k : Int) + (1 : Int)) ∧ ∃ (s' : Nat), (s' ≤ parts.length ∧ parts.length ≤ n ∧ n ≤ (1000 : Nat)) ∧ (parts.length - s').succ ≤ parts.length - k ∧ () = () ∧ (D.int IntKind.i64 (↑h : Int) = D.int IntKind.i64 (↑h : Int) ∧ D.ms (0 : Nat) (0 : Nat) n n true = D.ms (0 : Nat) (0 : Nat) n n true ∧ D.int IntKind.i64 mine = D.int IntKind.i64 mine ∧ D.sl true (List.map iD parts) = D.sl true (List.map iD parts) ∧ D.int IntKind.i64 (↑(List.map iD parts).length : Int) = D.int IntKind.i64 (↑(List.map iD parts).length : Int) ∧ D.int IntKind.i64 (↑s' : Int) = D.int IntKind.i64 ((↑k : Int) + (1 : Int))) ∧ (some (Ob.row St.own (2 : Nat) (List.map shD (fin4 n parts s'))) = none ∨ some (Ob.row St.own (2 : Nat) (List.map shD (fin4 n parts s'))) = some (Ob.row St.own (2 : Nat) ((List.map shD (fin4 n parts k)).set ((0 : Nat) + (↑k : Int).toNat) (D.agg [D.int IntKind.i64 x.fst, D.int IntKind.i64 y]))) ∧ ((List.map shD (fin4 n parts k)).set ((0 : Nat) + (↑k : Int).toNat) (D.agg [D.int IntKind.i64 x.fst, D.int IntKind.i64 y])).all D.pure = true)) ∧ (decide ((↑k : Int) < (↑(List.map iD parts).length : Int)) = false → ∃ (a : Unit), True ∧ (D.int IntKind.i64 (↑h : Int) = D.int IntKind.i64 (↑h : Int) ∧ D.ms (0 : Nat) (0 : Nat) n n true = D.ms (0 : Nat) (0 : Nat) n n true ∧ D.int IntKind.i64 mine = D.int IntKind.i64 mine) ∧ (some (Ob.row St.own (2 : Nat) (List.map shD (fin4 n parts parts.length))) = none ∨ some (Ob.row St.own (2 : Nat) (List.map shD (fin4 n parts parts.length))) = some (Ob.row St.own (2 : Nat) (List.map shD (fin4 n parts k))) ∧ (List.map shD (fin4 n parts k)).all D.pure = true))) (by kernel_rfl) ?_
  have hkl : (List.map iD parts).length = parts.length := List.length_map ..
  refine ⟨fun hlt => ?_, fun hge => ?_⟩
  · have hlt : k < parts.length := by have := of_decide_eq_true hlt; omega
    have hg : (List.map iD parts)[((k : Nat) : Int).toNat]? = some (iD (parts.getD k 0)) := by
      rw [Int.toNat_natCast, List.getElem?_map, List.getD_eq_getElem?_getD, List.getElem?_eq_getElem hlt]; rfl
    refine ⟨parts.getD k 0, by omega, hg, by omega, by omega, ((k : Int), 0), ?_, ink (by omega), k + 1, ⟨by omega, h2, h3⟩, by omega, rfl, ?_, .inr ⟨?_, ?_⟩⟩
    · unfold fin4
      rw [sget _ (by omega)]
      simp
    · repeat' apply And.intro
      all_goals rfl
    · unfold fin4
      rw [sset]
      congr 3
      refine tab_congr fun i hi => ?_
      by_cases h : i = k
      · subst h; simp
      · have : (i < k + 1) = (i < k) := by apply propext; omega
        simp only [this, if_neg h]
    · unfold fin4
      rw [sset]
      exact pure_shD' _
  · have : k = parts.length := by have := of_decide_eq_false hge; omega
    rw [this]
    refine ⟨(), trivial, ?_, .inr ⟨rfl, pure_shD' _⟩⟩
    repeat' apply And.intro
    all_goals rfl
noncomputable def zrC0 : List Ctr := [zonesC, sumC', sprC2']
noncomputable def zrCfg (f : Bool) (own : ByteArray) (l : List Stat) (N : List ByteArray) (h : Nat) (many : Nat → Int) : WCfg := { nCfg 0 zrC0 [] [] with loops := fun k => match k with
  | 4 => some ((z1 own f l (zNames l).isEmpty N).row [])
  | 14 => some ((z2 f l (zNames l).isEmpty N h (evZ N.length)).row [(0, true), (1, true), (2, true)])
  | 24 => some ((z3 N.length h (evZ N.length) (tab N.length (fuI l.length many)) (tab N.length (foI l.length (evZ N.length) h many)) (tab N.length (fmI h many))).row [(0, true), (1, true), (2, true), (3, true)])
  | 35 => some ((z4 N.length h (mineZ N.length h l.length many) (partsZ N.length h l.length many)).row [(3, true)])
  | _ => none }
theorem sumV_clip (l : List Int) : sumV (clipZ l) = sumV l := by unfold sumV; rw [tot_clip]
theorem fo_clip (N h : Nat) (L : Int) (many : Nat → Int) : tab N (foI L (evZ N) h many) = clipZ (ov0 N h L many) := by
  unfold clipZ ov0
  rw [tab_map]
  refine tab_congr fun i _ => ?_
  unfold foI
  split <;> omega
theorem zrN (f : Bool) (own : ByteArray) (l : List Stat) (h1 : l.length ≤ 1000) (hn : (zNames l).length ≤ 100) (hsm : ∀ t ∈ l, t.small) : (∃ (l_1 : List Stat), List.map statD l = List.map statD l_1 ∧ l_1.length ≤ (1000 : Nat)) ∧ ∃ (b : List ByteArray × List ByteArray), (b.fst ++ b.snd = zNames l ∧ (zNames l).length ≤ (1000 : Nat) ∧ List.Pairwise (fun (a b : ByteArray) => lessB a b = true) (zNames l)) ∧ (D.str own = D.str own ∧ D.sl f (List.map statD l) = D.sl f (List.map statD l) ∧ D.sl (zNames l).isEmpty (List.map strD (zNames l)) = D.sl (zNames (List.map dStat (List.map statD l))).isEmpty (List.map strD (zNames (List.map dStat (List.map statD l)))) ∧ D.int IntKind.i64 (atB own (zNames l) b.fst) = D.int IntKind.i64 (-1 : Int) ∧ D.sl (zNames l).isEmpty (List.map strD (zNames l)) = D.sl (zNames (List.map dStat (List.map statD l))).isEmpty (List.map strD (zNames (List.map dStat (List.map statD l)))) ∧ D.int IntKind.i64 (↑(List.map strD (zNames l)).length : Int) = D.int IntKind.i64 (↑(List.map strD (zNames (List.map dStat (List.map statD l)))).length : Int) ∧ D.int IntKind.i64 (↑b.fst.length : Int) = D.int IntKind.i64 (0 : Int)) ∧ ∀ (a : Unit), True → (decide (own = ByteArray.mk #[]) = true → D.sl true [] = D.sl true (List.map shD (zsh own l))) ∧ (decide (own = ByteArray.mk #[]) = false → (decide (atB own (zNames l) (zNames l) < (0 : Int)) = true → D.sl true [] = D.sl true (List.map shD (zsh own l))) ∧ (decide (atB own (zNames l) (zNames l) < (0 : Int)) = false → (decide ((↑(List.map strD (zNames l)).length : Int) < (2 : Int)) = true → D.sl true [] = D.sl true (List.map shD (zsh own l))) ∧ (decide ((↑(List.map strD (zNames l)).length : Int) < (2 : Int)) = false → (0 : Int) ≤ (10000 : Int) ∧ (0 : Int) < (↑(List.map strD (zNames l)).length : Int) ∧ inK IntKind.i64 (10000 : Int) ∧ ∃ (b : List ByteArray × List ByteArray × List Int × List Int × List Int), (b.fst ++ b.snd.fst = zNames l ∧ b.snd.snd.fst = tab b.fst.length (fuI (↑l.length : Int) (manyI (zNames l) l)) ∧ b.snd.snd.snd.fst = tab b.fst.length (foI (↑l.length : Int) (evZ (zNames l).length) (posB own (zNames l)) (manyI (zNames l) l)) ∧ b.snd.snd.snd.snd = tab b.fst.length (fmI (posB own (zNames l)) (manyI (zNames l) l)) ∧ (zNames l).length ≤ (1000 : Nat) ∧ l.length ≤ (1000 : Nat) ∧ (1 : Nat) ≤ l.length ∧ (0 : Int) ≤ evZ (zNames l).length ∧ evZ (zNames l).length ≤ (10000 : Int) ∧ (∀ (t : Stat), List.Mem t l → t.small) ∧ (zNames l = [] → False)) ∧ ((D.sl f (List.map statD l) = D.sl f (List.map statD l) ∧ D.sl (zNames l).isEmpty (List.map strD (zNames l)) = D.sl (zNames l).isEmpty (List.map strD (zNames l)) ∧ D.int IntKind.i64 (↑(posB own (zNames l)) : Int) = D.int IntKind.i64 (atB own (zNames l) (zNames l)) ∧ D.int IntKind.i64 (evZ (zNames l).length) = D.int IntKind.i64 ((10000 : Int) / (↑(List.map strD (zNames l)).length : Int)) ∧ outD (0 : Nat) (List.map iD b.snd.snd.fst) = D.sl true [] ∧ outD (1 : Nat) (List.map iD b.snd.snd.snd.fst) = D.sl true [] ∧ outD (2 : Nat) (List.map iD b.snd.snd.snd.snd) = D.sl true [] ∧ D.sl (zNames l).isEmpty (List.map strD (zNames l)) = D.sl (zNames l).isEmpty (List.map strD (zNames l)) ∧ D.int IntKind.i64 (↑(List.map strD (zNames l)).length : Int) = D.int IntKind.i64 (↑(List.map strD (zNames l)).length : Int) ∧ D.int IntKind.i64 (↑b.fst.length : Int) = D.int IntKind.i64 (0 : Int)) ∧ (outO (1 : Nat) (List.map iD b.snd.snd.fst) = none ∨ outO (1 : Nat) (List.map iD b.snd.snd.fst) = none ∧ False) ∧ (outO (1 : Nat) (List.map iD b.snd.snd.snd.fst) = none ∨ outO (1 : Nat) (List.map iD b.snd.snd.snd.fst) = none ∧ False) ∧ (outO (1 : Nat) (List.map iD b.snd.snd.snd.snd) = none ∨ outO (1 : Nat) (List.map iD b.snd.snd.snd.snd) = none ∧ False)) ∧ ∀ (a : (Int × List Int) × (Int × List Int) × Int × List Int), a.fst.fst :: a.fst.snd = tab (zNames l).length (fuI (↑l.length : Int) (manyI (zNames l) l)) ∧ a.snd.fst.fst :: a.snd.fst.snd = tab (zNames l).length (foI (↑l.length : Int) (evZ (zNames l).length) (posB own (zNames l)) (manyI (zNames l) l)) ∧ a.snd.snd.fst :: a.snd.snd.snd = tab (zNames l).length (fmI (posB own (zNames l)) (manyI (zNames l) l)) → (0 : Int) ≤ (↑(List.map strD (zNames l)).length : Int) ∧ (↑(List.map strD (zNames l)).length : Int) ≤ (↑(List.map strD (zNames l)).length : Int) ∧ (↑(List.map strD (zNames l)).length : Int) * (16 : Int) ≤ (140737488355328 : Int) ∧ (↑(List.map strD (zNames l)).length : Int) ≤ (140737488355328 : Int) ∧ ∃ (b : Nat), (b ≤ (zNames l).length ∧ (zNames l).length ≤ (1000 : Nat)) ∧ ((D.int IntKind.i64 (↑(posB own (zNames l)) : Int) = D.int IntKind.i64 (↑(posB own (zNames l)) : Int) ∧ D.int IntKind.i64 (evZ (zNames l).length) = D.int IntKind.i64 (evZ (zNames l).length) ∧ D.ms (0 : Nat) (0 : Nat) (zNames l).length (zNames l).length false = D.ms (0 : Nat) (0 : Nat) (List.map iD (a.fst.fst :: a.fst.snd)).length (List.map iD (a.fst.fst :: a.fst.snd)).length false ∧ D.ms (1 : Nat) (0 : Nat) (zNames l).length (zNames l).length false = D.ms (1 : Nat) (0 : Nat) (List.map iD (a.snd.fst.fst :: a.snd.fst.snd)).length (List.map iD (a.snd.fst.fst :: a.snd.fst.snd)).length false ∧ D.ms (2 : Nat) (0 : Nat) (zNames l).length (zNames l).length false = D.ms (2 : Nat) (0 : Nat) (List.map iD (a.snd.snd.fst :: a.snd.snd.snd)).length (List.map iD (a.snd.snd.fst :: a.snd.snd.snd)).length false ∧ D.ms (3 : Nat) (0 : Nat) (zNames l).length (zNames l).length true = D.ms (3 : Nat) (0 : Nat) (↑(List.map strD (zNames l)).length : Int).toNat (↑(List.map strD (zNames l)).length : Int).toNat true ∧ D.int IntKind.i64 (↑(zNames l).length : Int) = D.int IntKind.i64 (↑(↑(List.map strD (zNames l)).length : Int).toNat : Int) ∧ D.int IntKind.i64 (↑b : Int) = D.int IntKind.i64 (0 : Int)) ∧ (some (Ob.row St.own (1 : Nat) (List.map iD (tab (zNames l).length (fuI (↑l.length : Int) (manyI (zNames l) l))))) = none ∨ some (Ob.row St.own (1 : Nat) (List.map iD (tab (zNames l).length (fuI (↑l.length : Int) (manyI (zNames l) l))))) = some (Ob.row St.own (1 : Nat) (List.map iD (a.fst.fst :: a.fst.snd))) ∧ (List.map iD (a.fst.fst :: a.fst.snd)).all D.pure = true) ∧ (some (Ob.row St.own (1 : Nat) (List.map iD (tab (zNames l).length (foI (↑l.length : Int) (evZ (zNames l).length) (posB own (zNames l)) (manyI (zNames l) l))))) = none ∨ some (Ob.row St.own (1 : Nat) (List.map iD (tab (zNames l).length (foI (↑l.length : Int) (evZ (zNames l).length) (posB own (zNames l)) (manyI (zNames l) l))))) = some (Ob.row St.own (1 : Nat) (List.map iD (a.snd.fst.fst :: a.snd.fst.snd))) ∧ (List.map iD (a.snd.fst.fst :: a.snd.fst.snd)).all D.pure = true) ∧ (some (Ob.row St.own (1 : Nat) (List.map iD (tab (zNames l).length (fmI (posB own (zNames l)) (manyI (zNames l) l))))) = none ∨ some (Ob.row St.own (1 : Nat) (List.map iD (tab (zNames l).length (fmI (posB own (zNames l)) (manyI (zNames l) l))))) = some (Ob.row St.own (1 : Nat) (List.map iD (a.snd.snd.fst :: a.snd.snd.snd))) ∧ (List.map iD (a.snd.snd.fst :: a.snd.snd.snd)).all D.pure = true) ∧ (some (Ob.row St.own (2 : Nat) (List.map shD (sh0 (zNames l).length b))) = none ∨ some (Ob.row St.own (2 : Nat) (List.map shD (sh0 (zNames l).length b))) = some (Ob.row St.own (2 : Nat) (List.replicate (↑(List.map strD (zNames l)).length : Int).toNat (D.agg [D.int IntKind.i64 (0 : Int), D.int IntKind.i64 (0 : Int)]))) ∧ (List.replicate (↑(List.map strD (zNames l)).length : Int).toNat (D.agg [D.int IntKind.i64 (0 : Int), D.int IntKind.i64 (0 : Int)])).all D.pure = true)) ∧ ∀ (a : Unit), True → (decide (evZ (zNames l).length < (1 : Int)) = true → (0 : Int) ≤ (↑(posB own (zNames l)) : Int) ∧ (↑(posB own (zNames l)) : Int) < (↑(zNames l).length : Int) ∧ ∃ (x : Int × Int), (List.map shD (sh0 (zNames l).length (zNames l).length))[(0 : Nat) + (↑(posB own (zNames l)) : Int).toNat]? = some (D.agg [D.int IntKind.i64 x.fst, D.int IntKind.i64 x.snd]) ∧ (0 : Nat) + (zNames l).length ≤ ((List.map shD (sh0 (zNames l).length (zNames l).length)).set ((0 : Nat) + (↑(posB own (zNames l)) : Int).toNat) (D.agg [D.int IntKind.i64 x.fst, D.int IntKind.i64 (10000 : Int)])).length ∧ (List.take (zNames l).length (List.drop (0 : Nat) ((List.map shD (sh0 (zNames l).length (zNames l).length)).set ((0 : Nat) + (↑(posB own (zNames l)) : Int).toNat) (D.agg [D.int IntKind.i64 x.fst, D.int IntKind.i64 (10000 : Int)])))).all D.pure = true ∧ D.sl (true && decide ((zNames l).length = (zNames l).length)) (List.take (zNames l).length (List.drop (0 : Nat) ((List.map shD (sh0 (zNames l).length (zNames l).length)).set ((0 : Nat) + (↑(posB own (zNames l)) : Int).toNat) (D.agg [D.int IntKind.i64 x.fst, D.int IntKind.i64 (10000 : Int)])))) = D.sl true (List.map shD (zsh own l))) ∧ (decide (evZ (zNames l).length < (1 : Int)) = false → (0 : Int) ≤ (↑(posB own (zNames l)) : Int) ∧ (↑(posB own (zNames l)) : Int) < (↑(zNames l).length : Int) ∧ ∃ (x : Int), (List.map iD (tab (zNames l).length (fuI (↑l.length : Int) (manyI (zNames l) l))))[(0 : Nat) + (↑(posB own (zNames l)) : Int).toNat]? = some (D.int IntKind.i64 x) ∧ (decide (evZ (zNames l).length ≤ x) = true → (0 : Int) ≤ (↑(posB own (zNames l)) : Int) ∧ (↑(posB own (zNames l)) : Int) < (↑(zNames l).length : Int) ∧ ∃ (x : Int × Int), (List.map shD (sh0 (zNames l).length (zNames l).length))[(0 : Nat) + (↑(posB own (zNames l)) : Int).toNat]? = some (D.agg [D.int IntKind.i64 x.fst, D.int IntKind.i64 x.snd]) ∧ (0 : Nat) + (zNames l).length ≤ ((List.map shD (sh0 (zNames l).length (zNames l).length)).set ((0 : Nat) + (↑(posB own (zNames l)) : Int).toNat) (D.agg [D.int IntKind.i64 x.fst, D.int IntKind.i64 (10000 : Int)])).length ∧ (List.take (zNames l).length (List.drop (0 : Nat) ((List.map shD (sh0 (zNames l).length (zNames l).length)).set ((0 : Nat) + (↑(posB own (zNames l)) : Int).toNat) (D.agg [D.int IntKind.i64 x.fst, D.int IntKind.i64 (10000 : Int)])))).all D.pure = true ∧ D.sl (true && decide ((zNames l).length = (zNames l).length)) (List.take (zNames l).length (List.drop (0 : Nat) ((List.map shD (sh0 (zNames l).length (zNames l).length)).set ((0 : Nat) + (↑(posB own (zNames l)) : Int).toNat) (D.agg [D.int IntKind.i64 x.fst, D.int IntKind.i64 (10000 : Int)])))) = D.sl true (List.map shD (zsh own l))) ∧ (decide (evZ (zNames l).length ≤ x) = false → (0 : Int) ≤ (↑(posB own (zNames l)) : Int) ∧ (↑(posB own (zNames l)) : Int) < (↑(zNames l).length : Int) ∧ ∃ (x : Int), (List.map iD (tab (zNames l).length (fuI (↑l.length : Int) (manyI (zNames l) l))))[(0 : Nat) + (↑(posB own (zNames l)) : Int).toNat]? = some (D.int IntKind.i64 x) ∧ inK IntKind.i64 ((10000 : Int) * x) ∧ (0 : Int) ≤ (10000 : Int) * x ∧ (0 : Int) < evZ (zNames l).length ∧ inK IntKind.i64 ((10000 : Int) * x) ∧ (0 : Nat) + (zNames l).length ≤ (List.map iD (tab (zNames l).length (foI (↑l.length : Int) (evZ (zNames l).length) (posB own (zNames l)) (manyI (zNames l) l)))).length ∧ (List.take (zNames l).length (List.drop (0 : Nat) (List.map iD (tab (zNames l).length (foI (↑l.length : Int) (evZ (zNames l).length) (posB own (zNames l)) (manyI (zNames l) l)))))).all D.pure = true ∧ (List.take (zNames l).length (List.drop (0 : Nat) (List.map iD (tab (zNames l).length (foI (↑l.length : Int) (evZ (zNames l).length) (posB own (zNames l)) (manyI (zNames l) l))))) = List.map iD (List.map dI (List.take (zNames l).length (List.drop (0 : Nat) (List.map iD (tab (zNames l).length (foI (↑l.length : Int) (evZ (zNames l).length) (posB own (zNames l)) (manyI (zNames l) l))))))) ∧ (List.take (zNames l).length (List.drop (0 : Nat) (List.map iD (tab (zNames l).length (foI (↑l.length : Int) (evZ (zNames l).length) (posB own (zNames l)) (manyI (zNames l) l)))))).length ≤ (9223372036854775807 : Nat)) ∧ (decide (sumV (List.map dI (List.take (zNames l).length (List.drop (0 : Nat) (List.map iD (tab (zNames l).length (foI (↑l.length : Int) (evZ (zNames l).length) (posB own (zNames l)) (manyI (zNames l) l))))))) = (0 : Int)) = true → inK IntKind.i64 ((10000 : Int) - (10000 : Int) * x / evZ (zNames l).length) ∧ (0 : Nat) + (zNames l).length ≤ (List.map iD (tab (zNames l).length (fmI (posB own (zNames l)) (manyI (zNames l) l)))).length ∧ (List.take (zNames l).length (List.drop (0 : Nat) (List.map iD (tab (zNames l).length (fmI (posB own (zNames l)) (manyI (zNames l) l)))))).all D.pure = true ∧ (rI ((10000 : Int) - (10000 : Int) * x / evZ (zNames l).length) ∧ ∃ (l_1 : List Int), List.take (zNames l).length (List.drop (0 : Nat) (List.map iD (tab (zNames l).length (fmI (posB own (zNames l)) (manyI (zNames l) l))))) = List.map iD l_1 ∧ (∀ (p : Int), List.Mem p l_1 → rI p) ∧ l_1.length ≤ (100 : Nat)) ∧ ∃ (b : Nat), (b ≤ (partsZ (zNames l).length (posB own (zNames l)) (↑l.length : Int) (manyI (zNames l) l)).length ∧ (partsZ (zNames l).length (posB own (zNames l)) (↑l.length : Int) (manyI (zNames l) l)).length ≤ (zNames l).length ∧ (zNames l).length ≤ (1000 : Nat)) ∧ ((D.int IntKind.i64 (↑(posB own (zNames l)) : Int) = D.int IntKind.i64 (↑(posB own (zNames l)) : Int) ∧ D.ms (0 : Nat) (0 : Nat) (zNames l).length (zNames l).length true = D.ms (0 : Nat) (0 : Nat) (zNames l).length (zNames l).length true ∧ D.int IntKind.i64 (mineZ (zNames l).length (posB own (zNames l)) (↑l.length : Int) (manyI (zNames l) l)) = D.int IntKind.i64 ((10000 : Int) * x / evZ (zNames l).length) ∧ D.sl true (List.map iD (partsZ (zNames l).length (posB own (zNames l)) (↑l.length : Int) (manyI (zNames l) l))) = D.sl true (List.map iD (spreadV ((10000 : Int) - (10000 : Int) * x / evZ (zNames l).length) (List.map dI (List.take (zNames l).length (List.drop (0 : Nat) (List.map iD (tab (zNames l).length (fmI (posB own (zNames l)) (manyI (zNames l) l))))))))) ∧ D.int IntKind.i64 (↑(List.map iD (partsZ (zNames l).length (posB own (zNames l)) (↑l.length : Int) (manyI (zNames l) l))).length : Int) = D.int IntKind.i64 (↑(List.map iD (spreadV ((10000 : Int) - (10000 : Int) * x / evZ (zNames l).length) (List.map dI (List.take (zNames l).length (List.drop (0 : Nat) (List.map iD (tab (zNames l).length (fmI (posB own (zNames l)) (manyI (zNames l) l))))))))).length : Int) ∧ D.int IntKind.i64 (↑b : Int) = D.int IntKind.i64 (0 : Int)) ∧ (some (Ob.row St.own (2 : Nat) (List.map shD (fin4 (zNames l).length (partsZ (zNames l).length (posB own (zNames l)) (↑l.length : Int) (manyI (zNames l) l)) b))) = none ∨ some (Ob.row St.own (2 : Nat) (List.map shD (fin4 (zNames l).length (partsZ (zNames l).length (posB own (zNames l)) (↑l.length : Int) (manyI (zNames l) l)) b))) = some (Ob.row St.own (2 : Nat) (List.map shD (sh0 (zNames l).length (zNames l).length))) ∧ (List.map shD (sh0 (zNames l).length (zNames l).length)).all D.pure = true)) ∧ ∀ (a : Unit), True → (0 : Int) ≤ (↑(posB own (zNames l)) : Int) ∧ (↑(posB own (zNames l)) : Int) < (↑(zNames l).length : Int) ∧ ∃ (x : Int × Int), (List.map shD (fin4 (zNames l).length (partsZ (zNames l).length (posB own (zNames l)) (↑l.length : Int) (manyI (zNames l) l)) (partsZ (zNames l).length (posB own (zNames l)) (↑l.length : Int) (manyI (zNames l) l)).length))[(0 : Nat) + (↑(posB own (zNames l)) : Int).toNat]? = some (D.agg [D.int IntKind.i64 x.fst, D.int IntKind.i64 x.snd]) ∧ (0 : Nat) + (zNames l).length ≤ ((List.map shD (fin4 (zNames l).length (partsZ (zNames l).length (posB own (zNames l)) (↑l.length : Int) (manyI (zNames l) l)) (partsZ (zNames l).length (posB own (zNames l)) (↑l.length : Int) (manyI (zNames l) l)).length)).set ((0 : Nat) + (↑(posB own (zNames l)) : Int).toNat) (D.agg [D.int IntKind.i64 x.fst, D.int IntKind.i64 (mineZ (zNames l).length (posB own (zNames l)) (↑l.length : Int) (manyI (zNames l) l))])).length ∧ (List.take (zNames l).length (List.drop (0 : Nat) ((List.map shD (fin4 (zNames l).length (partsZ (zNames l).length (posB own (zNames l)) (↑l.length : Int) (manyI (zNames l) l)) (partsZ (zNames l).length (posB own (zNames l)) (↑l.length : Int) (manyI (zNames l) l)).length)).set ((0 : Nat) + (↑(posB own (zNames l)) : Int).toNat) (D.agg [D.int IntKind.i64 x.fst, D.int IntKind.i64 (mineZ (zNames l).length (posB own (zNames l)) (↑l.length : Int) (manyI (zNames l) l))])))).all D.pure = true ∧ D.sl (true && decide ((zNames l).length = (zNames l).length)) (List.take (zNames l).length (List.drop (0 : Nat) ((List.map shD (fin4 (zNames l).length (partsZ (zNames l).length (posB own (zNames l)) (↑l.length : Int) (manyI (zNames l) l)) (partsZ (zNames l).length (posB own (zNames l)) (↑l.length : Int) (manyI (zNames l) l)).length)).set ((0 : Nat) + (↑(posB own (zNames l)) : Int).toNat) (D.agg [D.int IntKind.i64 x.fst, D.int IntKind.i64 (mineZ (zNames l).length (posB own (zNames l)) (↑l.length : Int) (manyI (zNames l) l))])))) = D.sl true (List.map shD (zsh own l))) ∧ (decide (sumV (List.map dI (List.take (zNames l).length (List.drop (0 : Nat) (List.map iD (tab (zNames l).length (foI (↑l.length : Int) (evZ (zNames l).length) (posB own (zNames l)) (manyI (zNames l) l))))))) = (0 : Int)) = false → inK IntKind.i64 ((10000 : Int) - (10000 : Int) * x / evZ (zNames l).length) ∧ (0 : Nat) + (zNames l).length ≤ (List.map iD (tab (zNames l).length (foI (↑l.length : Int) (evZ (zNames l).length) (posB own (zNames l)) (manyI (zNames l) l)))).length ∧ (List.take (zNames l).length (List.drop (0 : Nat) (List.map iD (tab (zNames l).length (foI (↑l.length : Int) (evZ (zNames l).length) (posB own (zNames l)) (manyI (zNames l) l)))))).all D.pure = true ∧ (rI ((10000 : Int) - (10000 : Int) * x / evZ (zNames l).length) ∧ ∃ (l_1 : List Int), List.take (zNames l).length (List.drop (0 : Nat) (List.map iD (tab (zNames l).length (foI (↑l.length : Int) (evZ (zNames l).length) (posB own (zNames l)) (manyI (zNames l) l))))) = List.map iD l_1 ∧ (∀ (p : Int), List.Mem p l_1 → rI p) ∧ l_1.length ≤ (100 : Nat)) ∧ ∃ (b : Nat), (b ≤ (partsZ (zNames l).length (posB own (zNames l)) (↑l.length : Int) (manyI (zNames l) l)).length ∧ (partsZ (zNames l).length (posB own (zNames l)) (↑l.length : Int) (manyI (zNames l) l)).length ≤ (zNames l).length ∧ (zNames l).length ≤ (1000 : Nat)) ∧ ((D.int IntKind.i64 (↑(posB own (zNames l)) : Int) = D.int IntKind.i64 (↑(posB own (zNames l)) : Int) ∧ D.ms (0 : Nat) (0 : Nat) (zNames l).length (zNames l).length true = D.ms (0 : Nat) (0 : Nat) (zNames l).length (zNames l).length true ∧ D.int IntKind.i64 (mineZ (zNames l).length (posB own (zNames l)) (↑l.length : Int) (manyI (zNames l) l)) = D.int IntKind.i64 ((10000 : Int) * x / evZ (zNames l).length) ∧ D.sl true (List.map iD (partsZ (zNames l).length (posB own (zNames l)) (↑l.length : Int) (manyI (zNames l) l))) = D.sl true (List.map iD (spreadV ((10000 : Int) - (10000 : Int) * x / evZ (zNames l).length) (List.map dI (List.take (zNames l).length (List.drop (0 : Nat) (List.map iD (tab (zNames l).length (foI (↑l.length : Int) (evZ (zNames l).length) (posB own (zNames l)) (manyI (zNames l) l))))))))) ∧ D.int IntKind.i64 (↑(List.map iD (partsZ (zNames l).length (posB own (zNames l)) (↑l.length : Int) (manyI (zNames l) l))).length : Int) = D.int IntKind.i64 (↑(List.map iD (spreadV ((10000 : Int) - (10000 : Int) * x / evZ (zNames l).length) (List.map dI (List.take (zNames l).length (List.drop (0 : Nat) (List.map iD (tab (zNames l).length (foI (↑l.length : Int) (evZ (zNames l).length) (posB own (zNames l)) (manyI (zNames l) l))))))))).length : Int) ∧ D.int IntKind.i64 (↑b : Int) = D.int IntKind.i64 (0 : Int)) ∧ (some (Ob.row St.own (2 : Nat) (List.map shD (fin4 (zNames l).length (partsZ (zNames l).length (posB own (zNames l)) (↑l.length : Int) (manyI (zNames l) l)) b))) = none ∨ some (Ob.row St.own (2 : Nat) (List.map shD (fin4 (zNames l).length (partsZ (zNames l).length (posB own (zNames l)) (↑l.length : Int) (manyI (zNames l) l)) b))) = some (Ob.row St.own (2 : Nat) (List.map shD (sh0 (zNames l).length (zNames l).length))) ∧ (List.map shD (sh0 (zNames l).length (zNames l).length)).all D.pure = true)) ∧ ∀ (a : Unit), True → (0 : Int) ≤ (↑(posB own (zNames l)) : Int) ∧ (↑(posB own (zNames l)) : Int) < (↑(zNames l).length : Int) ∧ ∃ (x : Int × Int), (List.map shD (fin4 (zNames l).length (partsZ (zNames l).length (posB own (zNames l)) (↑l.length : Int) (manyI (zNames l) l)) (partsZ (zNames l).length (posB own (zNames l)) (↑l.length : Int) (manyI (zNames l) l)).length))[(0 : Nat) + (↑(posB own (zNames l)) : Int).toNat]? = some (D.agg [D.int IntKind.i64 x.fst, D.int IntKind.i64 x.snd]) ∧ (0 : Nat) + (zNames l).length ≤ ((List.map shD (fin4 (zNames l).length (partsZ (zNames l).length (posB own (zNames l)) (↑l.length : Int) (manyI (zNames l) l)) (partsZ (zNames l).length (posB own (zNames l)) (↑l.length : Int) (manyI (zNames l) l)).length)).set ((0 : Nat) + (↑(posB own (zNames l)) : Int).toNat) (D.agg [D.int IntKind.i64 x.fst, D.int IntKind.i64 (mineZ (zNames l).length (posB own (zNames l)) (↑l.length : Int) (manyI (zNames l) l))])).length ∧ (List.take (zNames l).length (List.drop (0 : Nat) ((List.map shD (fin4 (zNames l).length (partsZ (zNames l).length (posB own (zNames l)) (↑l.length : Int) (manyI (zNames l) l)) (partsZ (zNames l).length (posB own (zNames l)) (↑l.length : Int) (manyI (zNames l) l)).length)).set ((0 : Nat) + (↑(posB own (zNames l)) : Int).toNat) (D.agg [D.int IntKind.i64 x.fst, D.int IntKind.i64 (mineZ (zNames l).length (posB own (zNames l)) (↑l.length : Int) (manyI (zNames l) l))])))).all D.pure = true ∧ D.sl (true && decide ((zNames l).length = (zNames l).length)) (List.take (zNames l).length (List.drop (0 : Nat) ((List.map shD (fin4 (zNames l).length (partsZ (zNames l).length (posB own (zNames l)) (↑l.length : Int) (manyI (zNames l) l)) (partsZ (zNames l).length (posB own (zNames l)) (↑l.length : Int) (manyI (zNames l) l)).length)).set ((0 : Nat) + (↑(posB own (zNames l)) : Int).toNat) (D.agg [D.int IntKind.i64 x.fst, D.int IntKind.i64 (mineZ (zNames l).length (posB own (zNames l)) (↑l.length : Int) (manyI (zNames l) l))])))) = D.sl true (List.map shD (zsh own l)))))))) := by
  obtain ⟨g1, g2, g3⟩ := zNames_all l
  have hne : ∀ N : Nat, (true && decide (N = N)) = true := fun N => by simp
  rw [map_dStat, show (List.map strD (zNames l)).length = (zNames l).length from List.length_map .., Int.toNat_natCast]
  refine ⟨⟨l, rfl, h1⟩, ([], zNames l), ⟨rfl, by omega, g1⟩, ?_, fun _ _ => ⟨fun he => ?_, fun he => ⟨fun hh => ?_, fun hh => ⟨fun h2 => ?_, fun h2 => ?_⟩⟩⟩⟩
  · repeat' apply And.intro
    all_goals rfl
  · have he := of_decide_eq_true he
    rw [show zsh own l = [] from if_pos (.inl he)]; rfl
  · have hh := of_decide_eq_true hh
    have hh : hasB own (zNames l) = false := by
      cases h : hasB own (zNames l) with
      | false => rfl
      | true => unfold atB at hh; rw [h, if_pos rfl] at hh; omega
    rw [show zsh own l = [] from if_pos (.inr (.inl hh))]; rfl
  · have h2 : (zNames l).length < 2 := by have := of_decide_eq_true h2; omega
    rw [show zsh own l = [] from if_pos (.inr (.inr h2))]; rfl
  have he := of_decide_eq_false he
  have hh := of_decide_eq_false hh
  have hh : hasB own (zNames l) = true := by
    cases h : hasB own (zNames l) with
    | true => rfl
    | false => unfold atB at hh; rw [h, if_neg (by simp)] at hh; omega
  have h2 : ¬ (zNames l).length < 2 := by have := of_decide_eq_false h2; omega
  have hz : zsh own l = zshV (zNames l).length (posB own (zNames l)) l.length (manyI (zNames l) l) := if_neg (by rintro (h | h | h); exact he h; rw [hh] at h; cases h; exact h2 h)
  have hp := zNames_own hh
  have hmb := many_bound (zNames l) h1
  have hml := many_le (zNames l) l
  have hat : atB own (zNames l) (zNames l) = (posB own (zNames l) : Int) := by unfold atB; rw [hh, if_pos rfl]
  have hN : 2 ≤ (zNames l).length ∧ (zNames l).length ≤ 100 := by omega
  have hL : 0 < l.length := by omega
  have hev : 100 ≤ evZ (zNames l).length ∧ evZ (zNames l).length ≤ 5000 := by
    unfold evZ
    generalize (zNames l).length = n at hN
    have e1 : (0 : Int) < n := by omega
    refine ⟨(Int.le_ediv_iff_mul_le e1).2 (by omega), Int.ediv_le_of_le_mul e1 (by omega)⟩
  rw [hz, hat]
  refine ⟨by omega, by omega, ink (by omega), ([], zNames l, [], [], []), ⟨rfl, rfl, rfl, rfl, by omega, h1, hL, by omega, by omega, hsm, fun h => by rw [h] at hN; simp at hN⟩, ⟨?_, .inl rfl, .inl rfl, .inl rfl⟩, fun a ha => ?_⟩
  · repeat' apply And.intro
    all_goals rfl
  obtain ⟨⟨u0, us⟩, ⟨o0, os⟩, ⟨m0, ms⟩⟩ := a
  obtain ⟨a1, a2, a3⟩ := ha
  simp only at a1 a2 a3 ⊢
  rw [a1, a2, a3]
  clear a1 a2 a3
  generalize posB own (zNames l) = h at *
  generalize manyI (zNames l) l = many at *
  generalize hNN : (zNames l).length = N at *
  have lI : ∀ F : Nat → Int, (List.map iD (tab N F)).length = N := fun F => by rw [List.length_map, tab_len]
  rw [lI, lI, lI]
  refine ⟨by omega, by omega, by omega, by omega, 0, ⟨by omega, by omega⟩, ⟨?_, .inr ⟨rfl, pure_iD _⟩, .inr ⟨rfl, pure_iD _⟩, .inr ⟨rfl, pure_iD _⟩, .inr ⟨?_, ?_⟩⟩, fun _ _ => ⟨fun hev1 => ?_, fun _ => ?_⟩⟩
  · repeat' apply And.intro
    all_goals first | rfl | trivial
  · unfold sh0
    rw [tab_rep, tab_map]
    congr 3
  · rw [List.all_eq_true]; intro x hx; rw [List.eq_of_mem_replicate hx]; rfl
  · have := of_decide_eq_true hev1
    omega
  have hob := fun k => ov_bound (k := k) (L := (l.length : Int)) (ev := evZ N) (by omega) (hmb k) (by omega)
  have huo : fuI l.length many h = ovI l.length (evZ N) many h + evZ N := by unfold fuI ovI; omega
  have hu0 : 0 ≤ fuI l.length many h := by unfold fuI; exact Int.ediv_nonneg (by have := hmb h; omega) (by omega)
  have hu1 : fuI l.length many h ≤ 10000 := by unfold fuI; exact Int.ediv_le_of_le_mul (by omega) (by have := hml h; omega)
  refine ⟨by omega, by omega, fuI l.length many h, iget _ hp, fun hx => ?_, fun hx => ?_⟩
  · have hx := of_decide_eq_true hx
    have e1 : (List.map shD (sh0 N N)).set (0 + ((h : Nat) : Int).toNat) (.agg [.int .i64 ((h : Nat) : Int), .int .i64 10000]) = List.map shD (tab N fun i => ((i : Int), if i = h then 10000 else 0)) := by
      unfold sh0
      rw [sset]
      refine congrArg _ (tab_congr fun k hk => ?_)
      by_cases g : k = h
      · subst g; simp
      · simp [g, hk]
    refine ⟨by omega, by omega, (((h : Nat) : Int), 0), by unfold sh0; rw [sget _ hp]; simp [hp], ?_, ?_, ?_⟩
    · rw [e1]; simp [tab_len]
    · rw [e1, fullT]; exact pure_shD' _
    · rw [e1, fullT]; unfold zshV; rw [if_pos (by omega)]; rfl
  have hx := of_decide_eq_false hx
  have hm : 0 ≤ mineZ N h l.length many ∧ mineZ N h l.length many ≤ 10000 := by
    unfold mineZ
    exact ⟨Int.ediv_nonneg (by omega) (by omega), Int.ediv_le_of_le_mul (by omega) (by omega)⟩
  have hmd : 10000 * fuI l.length many h / evZ N = mineZ N h l.length many := by unfold mineZ; rw [huo]
  have t2 : List.take N (List.drop 0 (List.map iD (tab N (foI l.length (evZ N) h many)))) = List.map iD (clipZ (ov0 N h l.length many)) := by rw [← fo_clip]; exact fullT _ _ _
  have t3 : List.take N (List.drop 0 (List.map iD (tab N (fmI h many)))) = List.map iD (mn0 N h many) := fullT _ _ _
  have l2 : (clipZ (ov0 N h l.length many)).length = N := by unfold clipZ; rw [List.length_map]; exact tab_len _ _
  have l3 : (mn0 N h many).length = N := tab_len _ _
  have r2 : ∀ p ∈ clipZ (ov0 N h l.length many), rI p := by
    intro p hp'
    obtain ⟨q, hq, rfl⟩ := List.mem_map.1 hp'
    obtain ⟨k, _, rfl⟩ := List.mem_map.1 hq
    have := hob k
    unfold rI
    split <;> omega
  have r3 : ∀ p ∈ mn0 N h many, rI p := by
    intro p hp'
    obtain ⟨k, _, rfl⟩ := List.mem_map.1 hp'
    have := hmb k
    unfold rI
    split <;> omega
  have hzv : zshV N h l.length many = fin0 N h (mineZ N h l.length many) (partsZ N h l.length many) (partsZ N h l.length many).length := by unfold zshV; rw [if_neg (by omega)]
  have e4 : ∀ x : Int, (List.map shD (fin4 N (partsZ N h l.length many) (partsZ N h l.length many).length)).set (0 + ((h : Nat) : Int).toNat) (.agg [.int .i64 ((h : Nat) : Int), .int .i64 (mineZ N h l.length many)]) = List.map shD (fin0 N h (mineZ N h l.length many) (partsZ N h l.length many) (partsZ N h l.length many).length) := fun x => by
    unfold fin4 fin0
    rw [sset]
    refine congrArg _ (tab_congr fun k hk => ?_)
    by_cases g : k = h
    · subst g; simp
    · simp [g]
  have g4 : (List.map shD (fin4 N (partsZ N h l.length many) (partsZ N h l.length many).length))[0 + ((h : Nat) : Int).toNat]? = some (.agg [.int .i64 ((h : Nat) : Int), .int .i64 (if h < (partsZ N h l.length many).length then (partsZ N h l.length many).getD h 0 else 0)]) := by
    unfold fin4
    rw [sget _ hp]
  have tf : List.take N (List.drop 0 (List.map shD (fin0 N h (mineZ N h l.length many) (partsZ N h l.length many) (partsZ N h l.length many).length))) = List.map shD (fin0 N h (mineZ N h l.length many) (partsZ N h l.length many) (partsZ N h l.length many).length) := fullT _ _ _
  have lf : (List.map shD (fin0 N h (mineZ N h l.length many) (partsZ N h l.length many) (partsZ N h l.length many).length)).length = N := by rw [List.length_map]; exact tab_len _ _
  have hpl : (partsZ N h l.length many).length ≤ N := by
    unfold partsZ
    split
    · exact Nat.le_trans (spreadV_len _ _) (by omega)
    · exact Nat.le_trans (spreadV_len _ _) (by unfold ov0; rw [tab_len]; omega)
  have hs0 : List.map shD (sh0 N N) = List.map shD (fin4 N (partsZ N h l.length many) 0) := by
    unfold sh0 fin4
    refine congrArg _ (tab_congr fun k hk => ?_)
    simp [hk]
  refine ⟨by omega, by omega, fuI l.length many h, iget _ hp, ink (by omega), by omega, by omega, ink (by omega), ?_⟩
  rw [hmd, t2, t3, map_dI, map_dI, sumV_clip, hs0]
  refine ⟨by omega, pure_iD _, ⟨rfl, by rw [List.length_map, l2]; omega⟩, fun hs => ?_, fun hs => ?_⟩
  · have hs := of_decide_eq_true hs
    have hpz : partsZ N h l.length many = spreadV (10000 - mineZ N h l.length many) (mn0 N h many) := by unfold partsZ; rw [if_pos hs]
    refine ⟨ink (by omega), by omega, pure_iD _, ⟨by unfold rI; omega, mn0 N h many, rfl, r3, by omega⟩, 0, ⟨by omega, hpl, by omega⟩, ⟨?_, .inr ⟨rfl, pure_shD' _⟩⟩, fun _ _ => ⟨by omega, by omega, (((h : Nat) : Int), _), g4, by rw [e4 0, lf]; omega, by rw [e4 0, tf]; exact pure_shD' _, by rw [e4 0, tf, hzv]; rfl⟩⟩
    simp only [← hpz]
    repeat' apply And.intro
    all_goals trivial
  · have hs := of_decide_eq_false hs
    have hpz : partsZ N h l.length many = spreadV (10000 - mineZ N h l.length many) (clipZ (ov0 N h l.length many)) := by unfold partsZ; rw [if_neg hs, spread_clip]
    refine ⟨ink (by omega), by omega, pure_iD _, ⟨by unfold rI; omega, clipZ (ov0 N h l.length many), rfl, r2, by omega⟩, 0, ⟨by omega, hpl, by omega⟩, ⟨?_, .inr ⟨rfl, pure_shD' _⟩⟩, fun _ _ => ⟨by omega, by omega, (((h : Nat) : Int), _), g4, by rw [e4 0, lf]; omega, by rw [e4 0, tf]; exact pure_shD' _, by rw [e4 0, tf, hzv]; rfl⟩⟩
    simp only [← hpz]
    repeat' apply And.intro
    all_goals trivial
def zrS (vs : List D) : Option DOut := match vs with | [.str own, .sl f xs] => some ⟨∃ l : List Stat, xs = l.map statD ∧ l.length ≤ 1000 ∧ (zNames l).length ≤ 100 ∧ ∀ t ∈ l, t.small, .sl true ((zsh own (xs.map dStat)).map shD)⟩ | _ => none
/-- The pages' shares of zones. -/
def zrC : Ctr := ⟨24, zrS, by
  intro vs o ho hp
  unfold zrS at ho
  split at ho
  · rename_i own f xs
    injection ho with ho; subst ho
    obtain ⟨l, rfl, h1, h2, h3⟩ := hp
    simp only [map_dStat]
    refine dataFunL (C := zrCfg f own l (zNames l) (posB own (zNames l)) (manyI (zNames l) l)) (ctrs_ok zrC0 rfl rfl) rfl Try.func24 (by kernel_rfl) (l := [lp Try.f24 4, lp Try.f24 14, lp Try.f24 24, lp Try.f24 35]) (by kernel_rfl) ?_ (by kernel_rfl) (by kernel_rfl) (by kernel_rfl) (zrN f own l h1 h2 h3)
    intro x hx
    simp only [List.mem_cons, List.not_mem_nil, or_false] at hx
    rcases hx with rfl | rfl | rfl | rfl
    · exact (z1 own f l (zNames l).isEmpty (zNames l)).fits 4 [] (by kernel_rfl) rfl fun s hs => z1R own f l _ _ s hs
    · exact (z2 f l (zNames l).isEmpty (zNames l) _ _).fits 14 [(0, true), (1, true), (2, true)] (by kernel_rfl) rfl fun s hs => z2R f l _ _ _ _ s hs
    · exact (z3 _ _ _ _ _ _).fits 24 [(0, true), (1, true), (2, true), (3, true)] (by kernel_rfl) rfl fun s hs => z3R _ _ _ _ _ _ s hs
    · exact (z4 _ _ _ _).fits 35 [(3, true)] (by kernel_rfl) rfl fun s hs => z4R _ _ _ _ s hs
  · cases ho⟩
end Go.Proofs.Ytgibpomhiilehaa.Dv
