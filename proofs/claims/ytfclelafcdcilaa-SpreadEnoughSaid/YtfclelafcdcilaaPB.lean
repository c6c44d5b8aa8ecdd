/- Hosts with how their requests went: which may be. -/
import Derived.Test.YtfclelafcdcilaaPA
set_option linter.unusedVariables false
set_option linter.unusedSimpArgs false
namespace Go.Proofs.Ytfclelafcdcilaa.Dv
open Go Go.Proofs
def codsR : TypeId → Option Codec
  | 4 => some ⟨Bool, blD⟩
  | 3 => some ⟨Int, iD⟩
  | 56 => some ⟨Ky, kyD⟩
  | 39 => some ⟨Rtd, rtD⟩
  | _ => none
def rCfg (l : List Ctr) (h : List (Nat × Hn)) : WCfg := { spec := specOf l, cod := codsR, H := hints h }
theorem oDk (id : Nat) (us : List Ky) (k : Ky) : outD id (List.map kyD (us ++ [k])) = .ms id 0 ((List.map kyD us).length + 1) ((List.map kyD us).length + 1) false := outD_of (by rw [List.map_append, List.length_append]; rfl)
theorem oRk (us : List Ky) (k : Ky) : outO 2 (List.map kyD (us ++ [k])) = some (.row .own 2 (List.take (List.map kyD us).length (List.map kyD us) ++ [kyD k])) ∧ (List.take (List.map kyD us).length (List.map kyD us) ++ [kyD k]).all D.pure = true := by
  have e : List.take (List.map kyD us).length (List.map kyD us) ++ [kyD k] = List.map kyD (us ++ [k]) := by rw [List.take_length, List.map_append]; rfl
  rw [e]
  exact ⟨outO_of (by simp), pure_kyD _⟩
noncomputable def maC : List Ctr := [mayC, srC, riC]
def rMay (x : Rtd) : Bool := mayB x.2.1 x.2.2
def maL (f : Bool) (all : List Rtd) : WLoop :=
  { St := List Rtd × List Rtd × List Ky
    O := Bool
    T := fun s => [(0, .sl f (all.map rtD)), (3, outD 0 (s.2.2.map kyD)), (6, .sl f (all.map rtD)), (7, .int .i64 (all.map rtD).length), (8, .int .i64 s.1.length)]
    S := fun s => [outO 2 (s.2.2.map kyD)]
    ok := fun s => s.1 ++ s.2.1 = all ∧ s.2.2 = s.1.map idK ∧ all.length ≤ 500
    μ := fun s => s.2.1.length
    m := fun s => s.2.1.all rMay
    src := [(3, true)]
    outs := [{ α := Unit, is := fun o _ => o = true ∧ all = [], ex := .exit 0, T := fun _ => [(0, .sl f (all.map rtD)), (3, .sl true [])] },
      { α := Ky × List Ky, is := fun o a => o = true ∧ all.map idK = a.1 :: a.2, ex := .exit 0, src := [(0, true)], T := fun a => [(0, .sl f (all.map rtD)), (3, outD 0 ((a.1 :: a.2).map kyD))], S := fun a => [outO 2 ((a.1 :: a.2).map kyD)] },
      { α := Unit, is := fun o _ => o = false, ex := .ret, T := fun _ => [(2, .bool false)] }] }
theorem maR (f : Bool) (all : List Rtd) (s : (maL f all).St) (hs : (maL f all).ok s) : Tri Try.prog 0 31 (lp Try.f26 3) (tb ((maL f all).T s)) ((maL f all).S s) ((maL f all).q 0 s) := by
  obtain ⟨a, r, u⟩ := s
  obtain ⟨h1, h2, h3⟩ := hs
  simp only at h1 h2
  cases r with
  | nil =>
    rw [List.append_nil] at h1
    subst h1
    cases u with
    | nil =>
      refine round0 (C := rCfg maC [(9, .f)]) (ctrs_ok (maC) rfl rfl) (by kernel_rfl) (by kernel_rfl) (q := decide ((↑a.length : Int) < (↑(List.map rtD a).length : Int)) = false ∧ ((∃ (a_1 : Unit), (true = true ∧ a = []) ∧ D.sl f (List.map rtD a) = D.sl f (List.map rtD a) ∧ D.sl true [] = D.sl true []) ∨ ∃ (a_1 : Ky × List Ky), (true = true ∧ List.map idK a = a_1.fst :: a_1.snd) ∧ (D.sl f (List.map rtD a) = D.sl f (List.map rtD a) ∧ D.ms (0 : Nat) (0 : Nat) (List.map kyD (a_1.fst :: a_1.snd)).length (List.map kyD (a_1.fst :: a_1.snd)).length false = D.sl true []) ∧ (some (Ob.row St.own (2 : Nat) (List.map kyD (a_1.fst :: a_1.snd))) = none ∨ some (Ob.row St.own (2 : Nat) (List.map kyD (a_1.fst :: a_1.snd))) = none ∧ False))) (by kernel_rfl) ?_
      exact ⟨by simp, .inl ⟨(), ⟨rfl, by simpa using h2.symm⟩, rfl, rfl⟩⟩
    | cons y ys =>
      refine round0 (C := rCfg maC [(9, .f)]) (ctrs_ok (maC) rfl rfl) (by kernel_rfl) (by kernel_rfl) (q := decide ((↑a.length : Int) < (↑(List.map rtD a).length : Int)) = false ∧ ((∃ (a_1 : Unit), (true = true ∧ a = []) ∧ D.sl f (List.map rtD a) = D.sl f (List.map rtD a) ∧ D.sl true [] = D.any) ∨ ∃ (a_1 : Ky × List Ky), (true = true ∧ List.map idK a = a_1.fst :: a_1.snd) ∧ (D.sl f (List.map rtD a) = D.sl f (List.map rtD a) ∧ D.ms (0 : Nat) (0 : Nat) (List.map kyD (a_1.fst :: a_1.snd)).length (List.map kyD (a_1.fst :: a_1.snd)).length false = D.ms (0 : Nat) (0 : Nat) (List.map kyD (y :: ys)).length (List.map kyD (y :: ys)).length false) ∧ (some (Ob.row St.own (2 : Nat) (List.map kyD (a_1.fst :: a_1.snd))) = none ∨ some (Ob.row St.own (2 : Nat) (List.map kyD (a_1.fst :: a_1.snd))) = some (Ob.row St.own (2 : Nat) (List.map kyD (y :: ys))) ∧ (List.map kyD (y :: ys)).all D.pure = true))) (by kernel_rfl) ?_
      exact ⟨by simp, .inr ⟨(y, ys), ⟨rfl, h2.symm⟩, ⟨rfl, rfl⟩, .inr ⟨rfl, pure_kyD _⟩⟩⟩
  | cons x r =>
    have hg : (List.map rtD all)[((a.length : Int)).toNat]? = some (rtD x) := by rw [← h1]; exact get_midI rtD a x r
    have hll : ((a.length : Int) < ((List.map rtD all).length : Int)) := by rw [← h1]; simp; omega
    have hix : D.int .i64 ((a ++ [x]).length : Int) = D.int .i64 ((a.length : Int) + 1) := by simp
    have hal : a.length + (r.length + 1) = all.length := by rw [← h1]; simp
    have hin : inK .i64 ((a.length : Int) + 1) := by simp only [inK]; omega
    have hok : (a ++ [x]) ++ r = all := by rw [← h1]; simp
    have hbad : (!mayB x.2.1 x.2.2) = true → (x :: r).all rMay = false := fun h => by rw [List.all_cons, show rMay x = false from (Bool.not_eq_true' _).mp h]; rfl
    have hgood : (!mayB x.2.1 x.2.2) = false → r.all rMay = (x :: r).all rMay := fun h => by rw [List.all_cons, show rMay x = true from (show mayB x.2.1 x.2.2 = true by simpa using h)]; rfl
    cases u with
    | nil =>
      refine round0 (C := rCfg maC [(9, .t)]) (ctrs_ok (maC) rfl rfl) (by kernel_rfl) (by kernel_rfl) (q := decide ((↑a.length : Int) < (↑(List.map rtD all).length : Int)) = true ∧ ∃ (y : Int × Int × Int), (0 : Int) ≤ (↑a.length : Int) ∧ (List.map rtD all)[(↑a.length : Int).toNat]? = some (D.agg [D.int IntKind.i64 y.fst, D.int IntKind.i64 y.snd.fst, D.int IntKind.i64 y.snd.snd]) ∧ True ∧ ((!mayB y.snd.fst y.snd.snd) = true → ∃ (a : Unit), (x :: r).all rMay = false ∧ D.bool false = D.bool false) ∧ ((!mayB y.snd.fst y.snd.snd) = false → inK IntKind.i64 ((↑a.length : Int) + (1 : Int)) ∧ ∃ (s' : List Rtd × List Rtd × List Ky), (s'.fst ++ s'.snd.fst = all ∧ s'.snd.snd = List.map idK s'.fst ∧ all.length ≤ (500 : Nat)) ∧ s'.snd.fst.length.succ ≤ (x :: r).length ∧ s'.snd.fst.all rMay = (x :: r).all rMay ∧ (D.sl f (List.map rtD all) = D.sl f (List.map rtD all) ∧ outD (0 : Nat) (List.map kyD s'.snd.snd) = D.ms (0 : Nat) (0 : Nat) (1 : Nat) (1 : Nat) false ∧ D.sl f (List.map rtD all) = D.sl f (List.map rtD all) ∧ D.int IntKind.i64 (↑(List.map rtD all).length : Int) = D.int IntKind.i64 (↑(List.map rtD all).length : Int) ∧ D.int IntKind.i64 (↑s'.fst.length : Int) = D.int IntKind.i64 ((↑a.length : Int) + (1 : Int))) ∧ (outO (2 : Nat) (List.map kyD s'.snd.snd) = none ∨ outO (2 : Nat) (List.map kyD s'.snd.snd) = some (Ob.row St.own (2 : Nat) [D.agg [D.int IntKind.i64 y.fst, D.int IntKind.i64 (0 : Int)]]) ∧ true = true))) (by kernel_rfl) ?_
      have hi := decide_eq_true hll
      refine ⟨hi, x, by omega, hg, trivial, fun h => ⟨(), hbad h, rfl⟩, fun h => ⟨hin, (a ++ [x], r, ([] : List Ky) ++ [idK x]), ⟨hok, by rw [List.map_append, ← h2]; rfl, h3⟩, Nat.le_refl _, hgood h, ⟨rfl, oDk _ ([] : List Ky) _, rfl, rfl, hix⟩, .inr (oRk ([] : List Ky) (idK x))⟩⟩
    | cons y ys =>
      refine round0 (C := rCfg maC [(9, .t)]) (ctrs_ok (maC) rfl rfl) (by kernel_rfl) (by kernel_rfl) (q := decide ((↑a.length : Int) < (↑(List.map rtD all).length : Int)) = true ∧ ∃ (y_1 : Int × Int × Int), (0 : Int) ≤ (↑a.length : Int) ∧ (List.map rtD all)[(↑a.length : Int).toNat]? = some (D.agg [D.int IntKind.i64 y_1.fst, D.int IntKind.i64 y_1.snd.fst, D.int IntKind.i64 y_1.snd.snd]) ∧ True ∧ ((!mayB y_1.snd.fst y_1.snd.snd) = true → ∃ (a : Unit), (x :: r).all rMay = false ∧ D.bool false = D.bool false) ∧ ((!mayB y_1.snd.fst y_1.snd.snd) = false → (0 : Nat) + (List.map kyD (y :: ys)).length ≤ (List.map kyD (y :: ys)).length ∧ (List.map kyD (y :: ys)).length ≤ (List.map kyD (y :: ys)).length ∧ ((List.map kyD (y :: ys)).length + (1 : Nat)) * (16 : Nat) ≤ (140737488355328 : Nat) ∧ (List.map kyD (y :: ys)).length.succ ≤ (List.map kyD (y :: ys)).length + (1 : Nat) ∧ (0 : Nat) = (0 : Nat) ∧ inK IntKind.i64 ((↑a.length : Int) + (1 : Int)) ∧ ∃ (s' : List Rtd × List Rtd × List Ky), (s'.fst ++ s'.snd.fst = all ∧ s'.snd.snd = List.map idK s'.fst ∧ all.length ≤ (500 : Nat)) ∧ s'.snd.fst.length.succ ≤ (x :: r).length ∧ s'.snd.fst.all rMay = (x :: r).all rMay ∧ (D.sl f (List.map rtD all) = D.sl f (List.map rtD all) ∧ outD (0 : Nat) (List.map kyD s'.snd.snd) = D.ms (0 : Nat) (0 : Nat) ((List.map kyD (y :: ys)).length + (1 : Nat)) ((List.map kyD (y :: ys)).length + (1 : Nat)) false ∧ D.sl f (List.map rtD all) = D.sl f (List.map rtD all) ∧ D.int IntKind.i64 (↑(List.map rtD all).length : Int) = D.int IntKind.i64 (↑(List.map rtD all).length : Int) ∧ D.int IntKind.i64 (↑s'.fst.length : Int) = D.int IntKind.i64 ((↑a.length : Int) + (1 : Int))) ∧ (outO (2 : Nat) (List.map kyD s'.snd.snd) = none ∨ outO (2 : Nat) (List.map kyD s'.snd.snd) = some (Ob.row St.own (2 : Nat) (List.take (List.map kyD (y :: ys)).length (List.map kyD (y :: ys)) ++ [D.agg [D.int IntKind.i64 y_1.fst, D.int IntKind.i64 (0 : Int)]])) ∧ (List.take (List.map kyD (y :: ys)).length (List.map kyD (y :: ys)) ++ [D.agg [D.int IntKind.i64 y_1.fst, D.int IntKind.i64 (0 : Int)]]).all D.pure = true))) (by kernel_rfl) ?_
      have hi := decide_eq_true hll
      have hU : (List.map kyD (y :: ys)).length ≤ 1000 := by rw [List.length_map, h2, List.length_map]; omega
      refine ⟨hi, x, by omega, hg, trivial, fun h => ⟨(), hbad h, rfl⟩, fun h => ⟨by omega, Nat.le_refl _, by omega, Nat.le_refl _, rfl, hin, (a ++ [x], r, y :: ys ++ [idK x]), ⟨hok, by rw [List.map_append, ← h2]; rfl, h3⟩, Nat.le_refl _, hgood h, ⟨rfl, oDk _ (y :: ys) _, rfl, rfl, hix⟩, .inr (oRk (y :: ys) (idK x))⟩⟩
noncomputable def maCfg (f : Bool) (l : List Rtd) : WCfg := { rCfg maC [] with loops := fun k => match k with | 3 => some ((maL f l).row [(0, true)]) | _ => none }
theorem maN (f : Bool) (l : List Rtd) (h : l.length ≤ 500) : ∃ (b : List Rtd × List Rtd × List Ky), (b.fst ++ b.snd.fst = l ∧ b.snd.snd = List.map idK b.fst ∧ l.length ≤ (500 : Nat)) ∧ ((D.sl f (List.map rtD l) = D.sl f (List.map rtD l) ∧ outD (0 : Nat) (List.map kyD b.snd.snd) = D.sl true [] ∧ D.sl f (List.map rtD l) = D.sl f (List.map rtD l) ∧ D.int IntKind.i64 (↑(List.map rtD l).length : Int) = D.int IntKind.i64 (↑(List.map rtD l).length : Int) ∧ D.int IntKind.i64 (↑b.fst.length : Int) = D.int IntKind.i64 (0 : Int)) ∧ (outO (2 : Nat) (List.map kyD b.snd.snd) = none ∨ outO (2 : Nat) (List.map kyD b.snd.snd) = none ∧ False)) ∧ (∀ (a : Unit), b.snd.fst.all rMay = true ∧ l = [] → (decide ((↑(List.map rtD l).length : Int) ≤ (64 : Int)) = true → (∃ (l : List Ky), nilT D = List.map kyD l ∧ l.length.succ ≤ (1000 : Nat) ∧ (1000 : Nat) ≤ (1000 : Nat)) ∧ (∃ (l : List Ky), nilT D = List.map kyD l ∧ l.length ≤ (1000 : Nat)) ∧ D.bool true = D.bool (mayM l)) ∧ (decide ((↑(List.map rtD l).length : Int) ≤ (64 : Int)) = false → D.bool false = D.bool (mayM l))) ∧ (∀ (a : Ky × List Ky), b.snd.fst.all rMay = true ∧ List.map idK l = a.fst :: a.snd → (decide ((↑(List.map rtD l).length : Int) ≤ (64 : Int)) = true → (0 : Nat) + (List.map kyD (a.fst :: a.snd)).length ≤ (List.map kyD (a.fst :: a.snd)).length ∧ (List.take (List.map kyD (a.fst :: a.snd)).length (List.drop (0 : Nat) (List.map kyD (a.fst :: a.snd)))).all D.pure = true ∧ (∃ (l : List Ky), List.take (List.map kyD (a.fst :: a.snd)).length (List.drop (0 : Nat) (List.map kyD (a.fst :: a.snd))) = List.map kyD l ∧ l.length.succ ≤ (1000 : Nat) ∧ (1000 : Nat) ≤ (1000 : Nat)) ∧ (∃ (l : List Ky), List.map kyD (sortK (List.map dKy (List.take (List.map kyD (a.fst :: a.snd)).length (List.drop (0 : Nat) (List.map kyD (a.fst :: a.snd)))))) = List.map kyD l ∧ l.length ≤ (1000 : Nat)) ∧ D.bool (risK (List.map dKy (List.map kyD (sortK (List.map dKy (List.take (List.map kyD (a.fst :: a.snd)).length (List.drop (0 : Nat) (List.map kyD (a.fst :: a.snd))))))))) = D.bool (mayM l)) ∧ (decide ((↑(List.map rtD l).length : Int) ≤ (64 : Int)) = false → D.bool false = D.bool (mayM l))) ∧ ∀ (a : Unit), b.snd.fst.all rMay = false → D.bool false = D.bool (mayM l) := by
  have hL : (List.map rtD l).length = l.length := List.length_map ..
  have hm : ∀ b : Bool, l.all rMay = b → mayM l = (b && (decide (l.length ≤ 64) && risK (sortK (l.map idK)))) := fun b hb => by unfold mayM; rw [← hb]; rfl
  refine ⟨([], l, []), ⟨rfl, rfl, h⟩, ⟨⟨rfl, rfl, rfl, rfl, rfl⟩, .inl rfl⟩, fun _ ha => ?_, fun a ha => ?_, fun _ ha => ?_⟩
  · obtain ⟨_, rfl⟩ := ha
    exact ⟨fun _ => ⟨⟨[], rfl, by decide, by decide⟩, ⟨[], rfl, by decide⟩, by first | rfl | (congr 1; decide +kernel)⟩, fun h => by cases h⟩
  · obtain ⟨h1, h2⟩ := ha
    rw [← h2]
    have ht : List.take (List.map kyD (List.map idK l)).length (List.drop 0 (List.map kyD (List.map idK l))) = List.map kyD (List.map idK l) := by rw [List.drop_zero, List.take_length]
    have hlen : (List.map idK l).length = l.length := List.length_map ..
    rw [ht, map_dKy, map_dKy, hm _ h1, hL]
    refine ⟨fun hx => ⟨by omega, pure_kyD _, ⟨_, rfl, by omega, by omega⟩, ⟨_, rfl, by rw [sortK_len]; omega⟩, ?_⟩, fun hx => ?_⟩
    · rw [show decide (l.length ≤ 64) = true from decide_eq_true (by have := of_decide_eq_true hx; omega)]; rfl
    · rw [show decide (l.length ≤ 64) = false from decide_eq_false (by have := of_decide_eq_false hx; omega)]; rfl
  · rw [hm _ ha]; rfl
def maS (vs : List D) : Option DOut := match vs with | [.sl f xs] => some ⟨∃ l : List Rtd, xs = l.map rtD ∧ l.length ≤ 500, .bool (mayM (xs.map dRt))⟩ | _ => none
/-- spread.may. -/
def mayRC : Ctr := ⟨26, maS, by
  intro vs o ho hp
  unfold maS at ho
  split at ho
  · rename_i f xs
    injection ho with ho; subst ho
    obtain ⟨l, rfl, h⟩ := hp
    simp only [map_dRt]
    refine dataFunL (C := maCfg f l) (ctrs_ok maC rfl rfl) rfl Try.func26 (by kernel_rfl) (l := [lp Try.f26 3]) (by kernel_rfl) ?_ (by kernel_rfl) (by kernel_rfl) (by kernel_rfl) (maN f l h)
    intro x hx
    rw [List.mem_singleton.1 hx]
    exact (maL f l).fits 3 [(0, true)] (by kernel_rfl) rfl (maR f l)
  · cases ho⟩
def newR (a : List Rtd) (x : Rtd) : Bool := a.all fun y => decide (¬ x.1 = y.1)
/-- The rest may be behind these. -/
def goodR : List Rtd → List Rtd → Bool
  | _, [] => true
  | a, x :: r => newR a x && (rMay x && goodR (a ++ [x]) r)
theorem goodR_iff : ∀ (r a : List Rtd), goodR a r = true ↔ (∀ x ∈ r, rMay x = true) ∧ (r.map (·.1)).Nodup ∧ ∀ x ∈ r, ∀ y ∈ a, ¬ x.1 = y.1
  | [], a => by simp [goodR]
  | x :: r, a => by
    have h1 : newR a x = true ↔ ∀ y ∈ a, ¬ x.1 = y.1 := by unfold newR; rw [List.all_eq_true]; simp
    rw [goodR, Bool.and_eq_true, Bool.and_eq_true, goodR_iff r (a ++ [x]), h1, List.map_cons, List.nodup_cons]
    constructor
    · rintro ⟨g1, g2, g3, g4, g5⟩
      refine ⟨fun z hz => ?_, ⟨fun hx => ?_, g4⟩, fun z hz y hy => ?_⟩
      · rcases List.mem_cons.1 hz with rfl | hz
        · exact g2
        · exact g3 z hz
      · obtain ⟨z, hz, e⟩ := List.mem_map.1 hx
        exact g5 z hz x (by simp) e
      · rcases List.mem_cons.1 hz with rfl | hz
        · exact g1 y hy
        · exact g5 z hz y (List.mem_append_left _ hy)
    · rintro ⟨g1, ⟨g2, g3⟩, g4⟩
      refine ⟨g4 x (List.mem_cons_self ..), g1 x (List.mem_cons_self ..), fun z hz => g1 z (List.mem_cons_of_mem _ hz), g3, fun z hz y hy => ?_⟩
      rcases List.mem_append.1 hy with hy | hy
      · exact g4 z (List.mem_cons_of_mem _ hz) y hy
      · rw [List.mem_singleton.1 hy]
        intro e
        exact g2 (List.mem_map.2 ⟨z, hz, e⟩)
theorem may_good (l : List Rtd) : mayM l = (decide (l.length ≤ 64) && goodR [] l) := by
  have h1 := mayM_iff l
  have h2 := goodR_iff l []
  cases hm : mayM l with
  | true =>
    obtain ⟨a, b, c⟩ := h1.1 hm
    rw [decide_eq_true b, h2.2 ⟨a, c, fun x _ y hy => by cases hy⟩]; rfl
  | false =>
    cases hg : goodR [] l with
    | false => rw [Bool.and_false]
    | true =>
      obtain ⟨a, c, _⟩ := h2.1 hg
      by_cases b : l.length ≤ 64
      · rw [h1.2 ⟨a, b, c⟩] at hm; cases hm
      · rw [decide_eq_false b]; rfl
end Go.Proofs.Ytfclelafcdcilaa.Dv
