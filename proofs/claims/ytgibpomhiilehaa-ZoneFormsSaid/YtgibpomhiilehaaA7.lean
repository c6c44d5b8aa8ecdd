/- What is spread: the program's and the reference's. -/
import Derived.Test.YtgibpomhiilehaaA6
set_option linter.unusedVariables false
set_option linter.unusedSimpArgs false
namespace Go.Proofs.Ytgibpomhiilehaa.Dv
open Go Go.Proofs
theorem set_mid {α : Type} (a : List α) (x y : α) (b : List α) : (a ++ x :: b).set a.length y = a ++ y :: b := by
  rw [List.set_append_right _ _ (Nat.le_refl _), Nat.sub_self]; rfl
theorem row_get {a : List Int} {k : Nat} (hk : a.length = k) (x : Int) (b : List Int) : (List.map iD (a ++ x :: b))[0 + ((k : Int)).toNat]? = some (iD x) := by
  subst hk; rw [Nat.zero_add]; exact get_midI iD a x b
theorem row_set {a : List Int} {k : Nat} (hk : a.length = k) (x y : Int) (b : List Int) : (List.map iD (a ++ x :: b)).set (0 + ((k : Int)).toNat) (iD y) = List.map iD (a ++ y :: b) := by
  subst hk
  rw [Nat.zero_add, Int.toNat_natCast, List.map_append, List.map_cons, List.map_append, List.map_cons]
  have := set_mid (a.map iD) (iD x) (iD y) (b.map iD)
  rw [List.length_map] at this
  exact this
theorem bases_len (t s : Int) (l : List Int) : (bases t s l).length = l.length := by simp [bases]
theorem bases_snoc (t s : Int) (l : List Int) (p : Int) : bases t s (l ++ [p]) = bases t s l ++ [baseV t s p] := by simp [bases]
theorem sum_snoc (l : List Int) (p : Int) : (l ++ [p]).sum = l.sum + p := by simp
theorem rest_all (t s : Int) (l : List Int) : (l.map iD).all D.pure = true := pure_iD l
theorem bases_le {t s : Int} (ht : 0 ≤ t) (ht1 : t ≤ 1000000) (hs : 0 < s) {l : List Int} (h : ∀ p ∈ l, p ≤ s) : 0 ≤ (bases t s l).sum ∧ (bases t s l).sum ≤ 1000000 * l.length := by
  induction l with
  | nil => simp [bases]
  | cons p l ih =>
    obtain ⟨h1, h2⟩ := ih fun q hq => h q (List.mem_cons_of_mem _ hq)
    have hp := h p (List.mem_cons_self ..)
    obtain ⟨h3, h4, _⟩ := baseV_bound ht ht1 hs (p := p) (by omega)
    have e : (bases t s (p :: l)).sum = baseV t s p + (bases t s l).sum := by simp [bases]
    rw [e, List.length_cons]
    omega

theorem give_zero : ∀ (l os : List Int), l.length = os.length → give 0 l os = (0, os)
  | [], [], _ => rfl
  | p :: l, o :: os, h => by
    unfold give
    rw [if_neg (by omega), give_zero l os (by simpa using h)]

def sp5 (f : Bool) (t s : Int) (l : List Int) : WLoop :=
  { St := Nat
    O := Bool
    T := fun i => [(0, .int .i64 t), (1, .sl f (l.map iD)), (5, .int .i64 s), (26, .sl f (l.map iD)), (27, .int .i64 (l.map iD).length), (28, .int .i64 i)]
    ok := fun i => i ≤ l.length ∧ l.length ≤ 140737488355328
    μ := fun i => l.length - i
    m := fun i => (l.drop i).all fun p => !decide (4611686018427387904 / (l.length : Int) < p)
    outs := [{ α := Unit, is := fun o _ => o = true, ex := .exit 0, T := fun _ => [(0, .int .i64 t), (1, .sl f (l.map iD)), (5, .int .i64 s)] }, { α := Unit, is := fun o _ => o = false, ex := .ret, T := fun _ => [(4, .sl true [])] }] }
theorem sp5R (f : Bool) (t s : Int) (l : List Int) (i : Nat) (hi : (sp5 f t s l).ok i) : Tri Try.prog 0 90 (lp Try.f51 5) (tb ((sp5 f t s l).T i)) ((sp5 f t s l).S i) ((sp5 f t s l).q 0 i) := by
  obtain ⟨h1, h2⟩ := hi
  rcases Nat.lt_or_ge i l.length with h | h
  · refine round0 (C := cfgH [] [(29, .t)]) (ctrs_ok ([]) rfl rfl) (by kernel_rfl) (by kernel_rfl) (q := decide ((↑i : Int) < (↑(List.map iD l).length : Int)) = true ∧ ∃ (y : Int), (0 : Int) ≤ (↑i : Int) ∧ (List.map iD l)[(↑i : Int).toNat]? = some (D.int IntKind.i64 y) ∧ (0 : Int) ≤ (4611686018427387904 : Int) ∧ (0 : Int) < (↑(List.map iD l).length : Int) ∧ inK IntKind.i64 (4611686018427387904 : Int) ∧ (decide ((4611686018427387904 : Int) / (↑(List.map iD l).length : Int) < y) = true → ∃ (a : Unit), ((List.drop i l).all fun (p : Int) => !decide ((4611686018427387904 : Int) / (↑l.length : Int) < p)) = false ∧ D.sl true [] = D.sl true []) ∧ (decide ((4611686018427387904 : Int) / (↑(List.map iD l).length : Int) < y) = false → inK IntKind.i64 ((↑i : Int) + (1 : Int)) ∧ ∃ (s' : Nat), (s' ≤ l.length ∧ l.length ≤ (140737488355328 : Nat)) ∧ (l.length - s').succ ≤ l.length - i ∧ (((List.drop s' l).all fun (p : Int) => !decide ((4611686018427387904 : Int) / (↑l.length : Int) < p)) = (List.drop i l).all fun (p : Int) => !decide ((4611686018427387904 : Int) / (↑l.length : Int) < p)) ∧ D.int IntKind.i64 t = D.int IntKind.i64 t ∧ D.sl f (List.map iD l) = D.sl f (List.map iD l) ∧ D.int IntKind.i64 s = D.int IntKind.i64 s ∧ D.sl f (List.map iD l) = D.sl f (List.map iD l) ∧ D.int IntKind.i64 (↑(List.map iD l).length : Int) = D.int IntKind.i64 (↑(List.map iD l).length : Int) ∧ D.int IntKind.i64 (↑s' : Int) = D.int IntKind.i64 ((↑i : Int) + (1 : Int)))) (by kernel_rfl) ?_
    have e1 : (l.drop i).all (fun p => !decide (4611686018427387904 / (l.length : Int) < p)) = (!decide (4611686018427387904 / (l.length : Int) < l[i]) && (l.drop (i + 1)).all fun p => !decide (4611686018427387904 / (l.length : Int) < p)) := by rw [List.drop_eq_getElem_cons h]; rfl
    rw [e1, List.length_map]
    refine ⟨by simp; omega, l[i], by omega, by simp [h, iD], by omega, by omega, by simp only [inK]; omega, ?_⟩
    refine chks (fun hlt => ⟨(), by rw [decide_eq_true hlt]; rfl, rfl⟩) fun hnl => ⟨by simp only [inK]; omega, i + 1, by omega, by omega, by rw [decide_eq_false hnl]; rfl, rfl, rfl, rfl, rfl, rfl, by simp⟩
  · refine round0 (C := cfgH [] [(29, .f)]) (ctrs_ok ([]) rfl rfl) (by kernel_rfl) (by kernel_rfl) (q := decide ((↑i : Int) < (↑(List.map iD l).length : Int)) = false ∧ ∃ (a : Unit), ((List.drop i l).all fun (p : Int) => !decide ((4611686018427387904 : Int) / (↑l.length : Int) < p)) = true ∧ D.int IntKind.i64 t = D.int IntKind.i64 t ∧ D.sl f (List.map iD l) = D.sl f (List.map iD l) ∧ D.int IntKind.i64 s = D.int IntKind.i64 s) (by kernel_rfl) ?_
    exact ⟨by simp; omega, (), by rw [List.drop_of_length_le h]; rfl, rfl, rfl, rfl⟩
def sp13 (f : Bool) (t s : Int) : WLoop :=
  { St := List Int × List Int
    O := List Int
    T := fun x => [(0, .int .i64 t), (1, .sl f ((x.1 ++ x.2).map iD)), (5, .int .i64 s), (8, .int .i64 (t - (bases t s x.1).sum)), (9, .ms 0 0 (x.1 ++ x.2).length (x.1 ++ x.2).length true), (42, .sl f ((x.1 ++ x.2).map iD)), (43, .int .i64 ((x.1 ++ x.2).map iD).length), (44, .int .i64 x.1.length)]
    S := fun x => [some (.row .own 1 ((bases t s x.1 ++ List.replicate x.2.length 0).map iD))]
    ok := fun x => x.1.length + x.2.length ≤ 100 ∧ (∀ p ∈ x.1 ++ x.2, -9223372036854775808 ≤ p ∧ p ≤ s) ∧ 0 ≤ t ∧ t ≤ 1000000 ∧ 0 < s ∧ s ≤ 4611686018427387904
    μ := fun x => x.2.length
    m := fun x => x.1 ++ x.2
    src := [(0, true)]
    outs := [{ α := List Int, is := fun o a => a = o, ex := .exit 2, src := [(0, true)], T := fun a => [(1, .sl f (a.map iD)), (8, .int .i64 (t - (bases t s a).sum)), (9, .ms 0 0 a.length a.length true)], S := fun a => [some (.row .own 1 ((bases t s a).map iD))] }] }
theorem sp13R (f : Bool) (t s : Int) (x : (sp13 f t s).St) (hx : (sp13 f t s).ok x) : Tri Try.prog 0 90 (lp Try.f51 13) (tb ((sp13 f t s).T x)) ((sp13 f t s).S x) ((sp13 f t s).q 0 x) := by
  obtain ⟨done, rest⟩ := x
  obtain ⟨h1, h2, ht, ht1, hs, hs1⟩ := hx
  simp only at h1 h2
  cases rest with
  | nil =>
    refine round0 (C := cfgH [mdC] [(45, .f)]) (ctrs_ok ([mdC]) rfl rfl) (by kernel_rfl) (by kernel_rfl) (q := decide ((↑done.length : Int) < (↑(List.map iD (done ++ [])).length : Int)) = false ∧ ∃ (a : List Int), a = done ++ [] ∧ (D.sl f (List.map iD a) = D.sl f (List.map iD (done ++ [])) ∧ D.int IntKind.i64 (t - (bases t s a).sum) = D.int IntKind.i64 (t - (bases t s done).sum) ∧ D.ms (0 : Nat) (0 : Nat) a.length a.length true = D.ms (0 : Nat) (0 : Nat) (done ++ []).length (done ++ []).length true) ∧ (some (Ob.row St.own (1 : Nat) (List.map iD (bases t s a))) = none ∨ some (Ob.row St.own (1 : Nat) (List.map iD (bases t s a))) = some (Ob.row St.own (1 : Nat) (List.map iD (bases t s done ++ []))) ∧ (List.map iD (bases t s done ++ [])).all D.pure = true)) (by kernel_rfl) ?_
    exact ⟨by simp, done, by simp, ⟨by simp, by simp, by simp⟩, .inr ⟨by simp, by simp only [List.append_nil]; exact pure_iD _⟩⟩
  | cons p rest =>
    refine round0 (C := cfgH [mdC] [(45, .t)]) (ctrs_ok ([mdC]) rfl rfl) (by kernel_rfl) (by kernel_rfl) (q := decide ((↑done.length : Int) < (↑(List.map iD (done ++ p :: rest)).length : Int)) = true ∧ ∃ (y : Int), (0 : Int) ≤ (↑done.length : Int) ∧ (List.map iD (done ++ p :: rest))[(↑done.length : Int).toNat]? = some (D.int IntKind.i64 y) ∧ (rI t ∧ rI (max y (0 : Int)) ∧ rI s) ∧ (0 : Int) ≤ (↑done.length : Int) ∧ (↑done.length : Int) < (↑(done ++ p :: rest).length : Int) ∧ ∃ (x : Int), (List.map iD (bases t s done ++ List.replicate (p :: rest).length (0 : Int)))[(0 : Nat) + (↑done.length : Int).toNat]? = some (D.int IntKind.i64 x) ∧ (0 : Int) ≤ (↑done.length : Int) ∧ (↑done.length : Int) < (↑(done ++ p :: rest).length : Int) ∧ ∃ (x : Int), ((List.map iD (bases t s done ++ List.replicate (p :: rest).length (0 : Int))).set ((0 : Nat) + (↑done.length : Int).toNat) (D.int IntKind.i64 (mdI t (max y (0 : Int)) s).fst))[(0 : Nat) + (↑done.length : Int).toNat]? = some (D.int IntKind.i64 x) ∧ inK IntKind.i64 (t - (bases t s done).sum - x) ∧ inK IntKind.i64 ((↑done.length : Int) + (1 : Int)) ∧ ∃ (s' : List Int × List Int), (s'.fst.length + s'.snd.length ≤ (100 : Nat) ∧ (∀ (p : Int), List.Mem p (s'.fst ++ s'.snd) → (-9223372036854775808 : Int) ≤ p ∧ p ≤ s) ∧ (0 : Int) ≤ t ∧ t ≤ (1000000 : Int) ∧ (0 : Int) < s ∧ s ≤ (4611686018427387904 : Int)) ∧ s'.snd.length.succ ≤ (p :: rest).length ∧ s'.fst ++ s'.snd = done ++ p :: rest ∧ (D.int IntKind.i64 t = D.int IntKind.i64 t ∧ D.sl f (List.map iD (s'.fst ++ s'.snd)) = D.sl f (List.map iD (done ++ p :: rest)) ∧ D.int IntKind.i64 s = D.int IntKind.i64 s ∧ D.int IntKind.i64 (t - (bases t s s'.fst).sum) = D.int IntKind.i64 (t - (bases t s done).sum - x) ∧ D.ms (0 : Nat) (0 : Nat) (s'.fst ++ s'.snd).length (s'.fst ++ s'.snd).length true = D.ms (0 : Nat) (0 : Nat) (done ++ p :: rest).length (done ++ p :: rest).length true ∧ D.sl f (List.map iD (s'.fst ++ s'.snd)) = D.sl f (List.map iD (done ++ p :: rest)) ∧ D.int IntKind.i64 (↑(List.map iD (s'.fst ++ s'.snd)).length : Int) = D.int IntKind.i64 (↑(List.map iD (done ++ p :: rest)).length : Int) ∧ D.int IntKind.i64 (↑s'.fst.length : Int) = D.int IntKind.i64 ((↑done.length : Int) + (1 : Int))) ∧ (some (Ob.row St.own (1 : Nat) (List.map iD (bases t s s'.fst ++ List.replicate s'.snd.length (0 : Int)))) = none ∨ some (Ob.row St.own (1 : Nat) (List.map iD (bases t s s'.fst ++ List.replicate s'.snd.length (0 : Int)))) = some (Ob.row St.own (1 : Nat) ((List.map iD (bases t s done ++ List.replicate (p :: rest).length (0 : Int))).set ((0 : Nat) + (↑done.length : Int).toNat) (D.int IntKind.i64 (mdI t (max y (0 : Int)) s).fst))) ∧ ((List.map iD (bases t s done ++ List.replicate (p :: rest).length (0 : Int))).set ((0 : Nat) + (↑done.length : Int).toNat) (D.int IntKind.i64 (mdI t (max y (0 : Int)) s).fst)).all D.pure = true)) (by kernel_rfl) ?_
    have hl : (done ++ p :: rest).length = done.length + rest.length + 1 := by simp; omega
    simp only [List.length_cons] at h1
    obtain ⟨p1, p2⟩ := h2 p (by simp)
    obtain ⟨b1, b2⟩ := bases_le ht ht1 hs (l := done) fun q hq => (h2 q (by simp [hq])).2
    obtain ⟨v1, v2, _⟩ := baseV_bound ht ht1 hs (p := p) (by omega)
    have sg : (mdI t (max p 0) s).fst = baseV t s p := rfl
    have sg' : (mdI t (max 0 p) s).fst = baseV t s p := by rw [Int.max_comm]; exact sg
    have rg := row_get (bases_len t s done) 0 (List.replicate rest.length 0)
    have rs := row_set (bases_len t s done) 0 (baseV t s p) (List.replicate rest.length 0)
    have rg2 := row_get (bases_len t s done) (baseV t s p) (List.replicate rest.length 0)
    refine ⟨by rw [List.length_map, hl]; simp; omega, p, by omega, get_midI iD _ _ _, ⟨by unfold rI; omega, by unfold rI; omega, by unfold rI; omega⟩, by omega, by rw [hl]; omega, 0, rg, by omega, by rw [hl]; omega, baseV t s p, ?_, by simp only [inK]; omega, by simp only [inK]; omega, (done ++ [p], rest), ?_, ?_, by simp, ⟨by simp, by simp, by simp, by rw [bases_snoc, sum_snoc]; congr 1; omega, by simp, by simp, by simp, by simp⟩, .inr ⟨?_, ?_⟩⟩
    · rw [List.length_cons, List.replicate_succ]
      first | rw [sg] | rw [sg']
      exact (congrArg (fun z => z[0 + ((done.length : Int)).toNat]?) rs).trans rg2
    · simp only [List.append_assoc, List.singleton_append, List.length_append, List.length_singleton]; exact ⟨by omega, h2, ht, ht1, hs, hs1⟩
    · simp
    · rw [List.length_cons, List.replicate_succ]
      first | rw [sg] | rw [sg']
      refine congrArg (fun z => some (Ob.row St.own 1 z)) ?_
      refine Eq.trans ?_ rs.symm
      simp [bases_snoc]
    · rw [List.length_cons, List.replicate_succ]
      first | rw [sg] | rw [sg']
      exact (congrArg (fun z => List.all z D.pure) rs).trans (pure_iD _)

def sp19 (f : Bool) (l : List Int) : WLoop :=
  { St := Int × List Int × List Int × List Int × List Int
    O := Int × List Int
    T := fun x => [(8, .int .i64 x.1), (9, .ms 0 0 (x.2.1 ++ x.2.2.2.1).length (x.2.1 ++ x.2.2.2.1).length true), (67, .sl f ((x.2.1 ++ x.2.2.2.1).map iD)), (68, .int .i64 ((x.2.1 ++ x.2.2.2.1).map iD).length), (69, .int .i64 x.2.1.length)]
    S := fun x => [some (.row .own 1 ((x.2.2.1 ++ x.2.2.2.2).map iD))]
    ok := fun x => l = x.2.1 ++ x.2.2.2.1 ∧ x.2.1.length = x.2.2.1.length ∧ x.2.2.2.1.length = x.2.2.2.2.length ∧ x.2.1.length + x.2.2.2.1.length ≤ 100 ∧ 0 ≤ x.1 ∧ x.1 ≤ 1000000 ∧ ∀ o ∈ x.2.2.2.2, 0 ≤ o ∧ o ≤ 1000000
    μ := fun x => x.2.2.2.1.length
    m := fun x => ((give x.1 x.2.2.2.1 x.2.2.2.2).1, x.2.2.1 ++ (give x.1 x.2.2.2.1 x.2.2.2.2).2)
    src := [(0, true)]
    outs := [{ α := Int × List Int, is := fun o a => a = o, ex := .exit 4, src := [(0, true)], T := fun a => [(9, .ms 0 0 a.2.length a.2.length true)], S := fun a => [some (.row .own 1 (a.2.map iD))] }] }
theorem sp19R (f : Bool) (l : List Int) (x : (sp19 f l).St) (hx : (sp19 f l).ok x) : Tri Try.prog 0 90 (lp Try.f51 19) (tb ((sp19 f l).T x)) ((sp19 f l).S x) ((sp19 f l).q 0 x) := by
  obtain ⟨left, done, outs, rest, bs⟩ := x
  obtain ⟨h0, h1, h2, h3, h4, h5, h6⟩ := hx
  simp only at h0 h1 h2 h3 h4 h5 h6
  cases rest with
  | nil =>
    obtain rfl : bs = [] := List.eq_nil_of_length_eq_zero (by simpa using h2.symm)
    refine round0 (C := cfgH [] [(70, .f)]) (ctrs_ok ([]) rfl rfl) (by kernel_rfl) (by kernel_rfl) (q := decide ((↑done.length : Int) < (↑(List.map iD (done ++ [])).length : Int)) = false ∧ ∃ (a : Int × List Int), a = (left, outs ++ []) ∧ D.ms (0 : Nat) (0 : Nat) a.snd.length a.snd.length true = D.ms (0 : Nat) (0 : Nat) (done ++ []).length (done ++ []).length true ∧ (some (Ob.row St.own (1 : Nat) (List.map iD a.snd)) = none ∨ some (Ob.row St.own (1 : Nat) (List.map iD a.snd)) = some (Ob.row St.own (1 : Nat) (List.map iD (outs ++ []))) ∧ (List.map iD (outs ++ [])).all D.pure = true)) (by kernel_rfl) ?_
    refine ⟨by simp, (left, outs), by simp [give], by simp [h1], .inr ⟨by simp, by simp only [List.append_nil]; exact pure_iD _⟩⟩
  | cons p rest =>
    cases bs with
    | nil => simp at h2
    | cons o bs =>
    have hl : (done ++ p :: rest).length = done.length + rest.length + 1 := by simp; omega
    simp only [List.length_cons] at h2 h3
    obtain ⟨o1, o2⟩ := h6 o (by simp)
    have rg := row_get h1.symm o bs
    have rs := row_set h1.symm o (o + 1) bs
    by_cases hc : 0 < p ∧ 0 < left
    · refine round0 (C := cfgH [] [(70, .t), (76, .t), (79, .t)]) (ctrs_ok ([]) rfl rfl) (by kernel_rfl) (by kernel_rfl) (q := decide ((↑done.length : Int) < (↑(List.map iD (done ++ p :: rest)).length : Int)) = true ∧ ∃ (y : Int), (0 : Int) ≤ (↑done.length : Int) ∧ (List.map iD (done ++ p :: rest))[(↑done.length : Int).toNat]? = some (D.int IntKind.i64 y) ∧ decide ((0 : Int) < y) = true ∧ decide ((0 : Int) < left) = true ∧ (0 : Int) ≤ (↑done.length : Int) ∧ (↑done.length : Int) < (↑(done ++ p :: rest).length : Int) ∧ ∃ (x : Int), (List.map iD (outs ++ o :: bs))[(0 : Nat) + (↑done.length : Int).toNat]? = some (D.int IntKind.i64 x) ∧ inK IntKind.i64 (x + (1 : Int)) ∧ (0 : Int) ≤ (↑done.length : Int) ∧ (↑done.length : Int) < (↑(done ++ p :: rest).length : Int) ∧ ∃ (x_1 : Int), (List.map iD (outs ++ o :: bs))[(0 : Nat) + (↑done.length : Int).toNat]? = some (D.int IntKind.i64 x_1) ∧ inK IntKind.i64 (left - (1 : Int)) ∧ inK IntKind.i64 ((↑done.length : Int) + (1 : Int)) ∧ ∃ (s' : Int × List Int × List Int × List Int × List Int), (l = s'.snd.fst ++ s'.snd.snd.snd.fst ∧ s'.snd.fst.length = s'.snd.snd.fst.length ∧ s'.snd.snd.snd.fst.length = s'.snd.snd.snd.snd.length ∧ s'.snd.fst.length + s'.snd.snd.snd.fst.length ≤ (100 : Nat) ∧ (0 : Int) ≤ s'.fst ∧ s'.fst ≤ (1000000 : Int) ∧ ∀ (o : Int), List.Mem o s'.snd.snd.snd.snd → (0 : Int) ≤ o ∧ o ≤ (1000000 : Int)) ∧ s'.snd.snd.snd.fst.length.succ ≤ (p :: rest).length ∧ ((give s'.fst s'.snd.snd.snd.fst s'.snd.snd.snd.snd).fst, s'.snd.snd.fst ++ (give s'.fst s'.snd.snd.snd.fst s'.snd.snd.snd.snd).snd) = ((give left (p :: rest) (o :: bs)).fst, outs ++ (give left (p :: rest) (o :: bs)).snd) ∧ (D.int IntKind.i64 s'.fst = D.int IntKind.i64 (left - (1 : Int)) ∧ D.ms (0 : Nat) (0 : Nat) (s'.snd.fst ++ s'.snd.snd.snd.fst).length (s'.snd.fst ++ s'.snd.snd.snd.fst).length true = D.ms (0 : Nat) (0 : Nat) (done ++ p :: rest).length (done ++ p :: rest).length true ∧ D.sl f (List.map iD (s'.snd.fst ++ s'.snd.snd.snd.fst)) = D.sl f (List.map iD (done ++ p :: rest)) ∧ D.int IntKind.i64 (↑(List.map iD (s'.snd.fst ++ s'.snd.snd.snd.fst)).length : Int) = D.int IntKind.i64 (↑(List.map iD (done ++ p :: rest)).length : Int) ∧ D.int IntKind.i64 (↑s'.snd.fst.length : Int) = D.int IntKind.i64 ((↑done.length : Int) + (1 : Int))) ∧ (some (Ob.row St.own (1 : Nat) (List.map iD (s'.snd.snd.fst ++ s'.snd.snd.snd.snd))) = none ∨ some (Ob.row St.own (1 : Nat) (List.map iD (s'.snd.snd.fst ++ s'.snd.snd.snd.snd))) = some (Ob.row St.own (1 : Nat) ((List.map iD (outs ++ o :: bs)).set ((0 : Nat) + (↑done.length : Int).toNat) (D.int IntKind.i64 (x + (1 : Int))))) ∧ ((List.map iD (outs ++ o :: bs)).set ((0 : Nat) + (↑done.length : Int).toNat) (D.int IntKind.i64 (x + (1 : Int)))).all D.pure = true)) (by kernel_rfl) ?_
      have gv : give left (p :: rest) (o :: bs) = ((give (left - 1) rest bs).1, (o + 1) :: (give (left - 1) rest bs).2) := by rw [give, if_pos hc]
      refine ⟨by rw [List.length_map, hl]; simp; omega, p, by omega, get_midI iD _ _ _, decide_eq_true hc.1, decide_eq_true hc.2, ?_⟩
      refine ⟨by omega, by rw [hl]; omega, o, rg, by simp only [inK]; omega, by omega, by rw [hl]; omega, o, rg, ?_⟩
      refine ⟨by simp only [inK]; omega, by simp only [inK]; omega, (left - 1, done ++ [p], outs ++ [o + 1], rest, bs), ?_, ?_, ?_, ⟨by simp, by simp, by simp, by simp, by simp⟩, .inr ⟨?_, ?_⟩⟩
      · exact ⟨by rw [h0]; simp, by simp; omega, (show rest.length = bs.length by omega), by simp; omega, (show 0 ≤ left - 1 by omega), (show left - 1 ≤ 1000000 by omega), fun z hz => h6 z (List.mem_cons_of_mem _ hz)⟩
      · simp
      · simp [gv]
      · refine congrArg (fun z => some (Ob.row St.own 1 z)) ?_
        refine Eq.trans ?_ rs.symm
        simp
      · exact (congrArg (fun z => List.all z D.pure) rs).trans (pure_iD _)
    · rcases Int.lt_or_le 0 p with hp | hp
      · have hlf : ¬ 0 < left := fun h => hc ⟨hp, h⟩
        refine round0 (C := cfgH [] [(70, .t), (76, .t), (79, .f)]) (ctrs_ok ([]) rfl rfl) (by kernel_rfl) (by kernel_rfl) (q := decide ((↑done.length : Int) < (↑(List.map iD (done ++ p :: rest)).length : Int)) = true ∧ ∃ (y : Int), (0 : Int) ≤ (↑done.length : Int) ∧ (List.map iD (done ++ p :: rest))[(↑done.length : Int).toNat]? = some (D.int IntKind.i64 y) ∧ decide ((0 : Int) < y) = true ∧ decide ((0 : Int) < left) = false ∧ inK IntKind.i64 ((↑done.length : Int) + (1 : Int)) ∧ ∃ (s' : Int × List Int × List Int × List Int × List Int), (l = s'.snd.fst ++ s'.snd.snd.snd.fst ∧ s'.snd.fst.length = s'.snd.snd.fst.length ∧ s'.snd.snd.snd.fst.length = s'.snd.snd.snd.snd.length ∧ s'.snd.fst.length + s'.snd.snd.snd.fst.length ≤ (100 : Nat) ∧ (0 : Int) ≤ s'.fst ∧ s'.fst ≤ (1000000 : Int) ∧ ∀ (o : Int), List.Mem o s'.snd.snd.snd.snd → (0 : Int) ≤ o ∧ o ≤ (1000000 : Int)) ∧ s'.snd.snd.snd.fst.length.succ ≤ (p :: rest).length ∧ ((give s'.fst s'.snd.snd.snd.fst s'.snd.snd.snd.snd).fst, s'.snd.snd.fst ++ (give s'.fst s'.snd.snd.snd.fst s'.snd.snd.snd.snd).snd) = ((give left (p :: rest) (o :: bs)).fst, outs ++ (give left (p :: rest) (o :: bs)).snd) ∧ (D.int IntKind.i64 s'.fst = D.int IntKind.i64 left ∧ D.ms (0 : Nat) (0 : Nat) (s'.snd.fst ++ s'.snd.snd.snd.fst).length (s'.snd.fst ++ s'.snd.snd.snd.fst).length true = D.ms (0 : Nat) (0 : Nat) (done ++ p :: rest).length (done ++ p :: rest).length true ∧ D.sl f (List.map iD (s'.snd.fst ++ s'.snd.snd.snd.fst)) = D.sl f (List.map iD (done ++ p :: rest)) ∧ D.int IntKind.i64 (↑(List.map iD (s'.snd.fst ++ s'.snd.snd.snd.fst)).length : Int) = D.int IntKind.i64 (↑(List.map iD (done ++ p :: rest)).length : Int) ∧ D.int IntKind.i64 (↑s'.snd.fst.length : Int) = D.int IntKind.i64 ((↑done.length : Int) + (1 : Int))) ∧ (some (Ob.row St.own (1 : Nat) (List.map iD (s'.snd.snd.fst ++ s'.snd.snd.snd.snd))) = none ∨ some (Ob.row St.own (1 : Nat) (List.map iD (s'.snd.snd.fst ++ s'.snd.snd.snd.snd))) = some (Ob.row St.own (1 : Nat) (List.map iD (outs ++ o :: bs))) ∧ (List.map iD (outs ++ o :: bs)).all D.pure = true)) (by kernel_rfl) ?_
        have gv : give left (p :: rest) (o :: bs) = ((give left rest bs).1, o :: (give left rest bs).2) := by rw [give, if_neg hc]
        refine ⟨by rw [List.length_map, hl]; simp; omega, p, by omega, get_midI iD _ _ _, decide_eq_true hp, decide_eq_false hlf, ?_⟩
        refine ⟨by simp only [inK]; omega, (left, done ++ [p], outs ++ [o], rest, bs), ?_, ?_, ?_, ⟨by simp, by simp, by simp, by simp, by simp⟩, .inr ⟨?_, ?_⟩⟩
        · exact ⟨by rw [h0]; simp, by simp; omega, (show rest.length = bs.length by omega), by simp; omega, h4, h5, fun z hz => h6 z (List.mem_cons_of_mem _ hz)⟩
        · simp
        · simp [gv]
        · simp
        · exact pure_iD _
      · have hp' : ¬ 0 < p := by omega
        refine round0 (C := cfgH [] [(70, .t), (76, .f)]) (ctrs_ok ([]) rfl rfl) (by kernel_rfl) (by kernel_rfl) (q := decide ((↑done.length : Int) < (↑(List.map iD (done ++ p :: rest)).length : Int)) = true ∧ ∃ (y : Int), (0 : Int) ≤ (↑done.length : Int) ∧ (List.map iD (done ++ p :: rest))[(↑done.length : Int).toNat]? = some (D.int IntKind.i64 y) ∧ decide ((0 : Int) < y) = false ∧ inK IntKind.i64 ((↑done.length : Int) + (1 : Int)) ∧ ∃ (s' : Int × List Int × List Int × List Int × List Int), (l = s'.snd.fst ++ s'.snd.snd.snd.fst ∧ s'.snd.fst.length = s'.snd.snd.fst.length ∧ s'.snd.snd.snd.fst.length = s'.snd.snd.snd.snd.length ∧ s'.snd.fst.length + s'.snd.snd.snd.fst.length ≤ (100 : Nat) ∧ (0 : Int) ≤ s'.fst ∧ s'.fst ≤ (1000000 : Int) ∧ ∀ (o : Int), List.Mem o s'.snd.snd.snd.snd → (0 : Int) ≤ o ∧ o ≤ (1000000 : Int)) ∧ s'.snd.snd.snd.fst.length.succ ≤ (p :: rest).length ∧ ((give s'.fst s'.snd.snd.snd.fst s'.snd.snd.snd.snd).fst, s'.snd.snd.fst ++ (give s'.fst s'.snd.snd.snd.fst s'.snd.snd.snd.snd).snd) = ((give left (p :: rest) (o :: bs)).fst, outs ++ (give left (p :: rest) (o :: bs)).snd) ∧ (D.int IntKind.i64 s'.fst = D.int IntKind.i64 left ∧ D.ms (0 : Nat) (0 : Nat) (s'.snd.fst ++ s'.snd.snd.snd.fst).length (s'.snd.fst ++ s'.snd.snd.snd.fst).length true = D.ms (0 : Nat) (0 : Nat) (done ++ p :: rest).length (done ++ p :: rest).length true ∧ D.sl f (List.map iD (s'.snd.fst ++ s'.snd.snd.snd.fst)) = D.sl f (List.map iD (done ++ p :: rest)) ∧ D.int IntKind.i64 (↑(List.map iD (s'.snd.fst ++ s'.snd.snd.snd.fst)).length : Int) = D.int IntKind.i64 (↑(List.map iD (done ++ p :: rest)).length : Int) ∧ D.int IntKind.i64 (↑s'.snd.fst.length : Int) = D.int IntKind.i64 ((↑done.length : Int) + (1 : Int))) ∧ (some (Ob.row St.own (1 : Nat) (List.map iD (s'.snd.snd.fst ++ s'.snd.snd.snd.snd))) = none ∨ some (Ob.row St.own (1 : Nat) (List.map iD (s'.snd.snd.fst ++ s'.snd.snd.snd.snd))) = some (Ob.row St.own (1 : Nat) (List.map iD (outs ++ o :: bs))) ∧ (List.map iD (outs ++ o :: bs)).all D.pure = true)) (by kernel_rfl) ?_
        have gv : give left (p :: rest) (o :: bs) = ((give left rest bs).1, o :: (give left rest bs).2) := by rw [give, if_neg hc]
        refine ⟨by rw [List.length_map, hl]; simp; omega, p, by omega, get_midI iD _ _ _, decide_eq_false hp', ?_⟩
        refine ⟨by simp only [inK]; omega, (left, done ++ [p], outs ++ [o], rest, bs), ?_, ?_, ?_, ⟨by simp, by simp, by simp, by simp, by simp⟩, .inr ⟨?_, ?_⟩⟩
        · exact ⟨by rw [h0]; simp, by simp; omega, (show rest.length = bs.length by omega), by simp; omega, h4, h5, fun z hz => h6 z (List.mem_cons_of_mem _ hz)⟩
        · simp
        · simp [gv]
        · simp
        · exact pure_iD _

def sp5' (f : Bool) (t s : Int) (l : List Int) : WLoop :=
  { St := Nat
    O := Bool
    T := fun i => [(0, .int .i64 t), (1, .sl f (l.map iD)), (5, .int .i64 s), (26, .sl f (l.map iD)), (27, .int .i64 (l.map iD).length), (28, .int .i64 i)]
    ok := fun i => i ≤ l.length ∧ l.length ≤ 140737488355328
    μ := fun i => l.length - i
    m := fun i => (l.drop i).all fun p => !decide (4611686018427387904 / (l.length : Int) < p)
    outs := [{ α := Unit, is := fun o _ => o = true, ex := .exit 0, T := fun _ => [(0, .int .i64 t), (1, .sl f (l.map iD)), (5, .int .i64 s)] }, { α := Unit, is := fun o _ => o = false, ex := .ret, T := fun _ => [(4, .sl true [])] }] }
theorem sp5'R (f : Bool) (t s : Int) (l : List Int) (i : Nat) (hi : (sp5' f t s l).ok i) : Tri Try.prog 0 92 (lp Try.f53 5) (tb ((sp5' f t s l).T i)) ((sp5' f t s l).S i) ((sp5' f t s l).q 0 i) := by
  obtain ⟨h1, h2⟩ := hi
  rcases Nat.lt_or_ge i l.length with h | h
  · refine round0 (C := cfgH [] [(29, .t)]) (ctrs_ok ([]) rfl rfl) (by kernel_rfl) (by kernel_rfl) (q := decide ((↑i : Int) < (↑(List.map iD l).length : Int)) = true ∧ ∃ (y : Int), (0 : Int) ≤ (↑i : Int) ∧ (List.map iD l)[(↑i : Int).toNat]? = some (D.int IntKind.i64 y) ∧ (0 : Int) ≤ (4611686018427387904 : Int) ∧ (0 : Int) < (↑(List.map iD l).length : Int) ∧ inK IntKind.i64 (4611686018427387904 : Int) ∧ (decide ((4611686018427387904 : Int) / (↑(List.map iD l).length : Int) < y) = true → ∃ (a : Unit), ((List.drop i l).all fun (p : Int) => !decide ((4611686018427387904 : Int) / (↑l.length : Int) < p)) = false ∧ D.sl true [] = D.sl true []) ∧ (decide ((4611686018427387904 : Int) / (↑(List.map iD l).length : Int) < y) = false → inK IntKind.i64 ((↑i : Int) + (1 : Int)) ∧ ∃ (s' : Nat), (s' ≤ l.length ∧ l.length ≤ (140737488355328 : Nat)) ∧ (l.length - s').succ ≤ l.length - i ∧ (((List.drop s' l).all fun (p : Int) => !decide ((4611686018427387904 : Int) / (↑l.length : Int) < p)) = (List.drop i l).all fun (p : Int) => !decide ((4611686018427387904 : Int) / (↑l.length : Int) < p)) ∧ D.int IntKind.i64 t = D.int IntKind.i64 t ∧ D.sl f (List.map iD l) = D.sl f (List.map iD l) ∧ D.int IntKind.i64 s = D.int IntKind.i64 s ∧ D.sl f (List.map iD l) = D.sl f (List.map iD l) ∧ D.int IntKind.i64 (↑(List.map iD l).length : Int) = D.int IntKind.i64 (↑(List.map iD l).length : Int) ∧ D.int IntKind.i64 (↑s' : Int) = D.int IntKind.i64 ((↑i : Int) + (1 : Int)))) (by kernel_rfl) ?_
    have e1 : (l.drop i).all (fun p => !decide (4611686018427387904 / (l.length : Int) < p)) = (!decide (4611686018427387904 / (l.length : Int) < l[i]) && (l.drop (i + 1)).all fun p => !decide (4611686018427387904 / (l.length : Int) < p)) := by rw [List.drop_eq_getElem_cons h]; rfl
    rw [e1, List.length_map]
    refine ⟨by simp; omega, l[i], by omega, by simp [h, iD], by omega, by omega, by simp only [inK]; omega, ?_⟩
    refine chks (fun hlt => ⟨(), by rw [decide_eq_true hlt]; rfl, rfl⟩) fun hnl => ⟨by simp only [inK]; omega, i + 1, by omega, by omega, by rw [decide_eq_false hnl]; rfl, rfl, rfl, rfl, rfl, rfl, by simp⟩
  · refine round0 (C := cfgH [] [(29, .f)]) (ctrs_ok ([]) rfl rfl) (by kernel_rfl) (by kernel_rfl) (q := decide ((↑i : Int) < (↑(List.map iD l).length : Int)) = false ∧ ∃ (a : Unit), ((List.drop i l).all fun (p : Int) => !decide ((4611686018427387904 : Int) / (↑l.length : Int) < p)) = true ∧ D.int IntKind.i64 t = D.int IntKind.i64 t ∧ D.sl f (List.map iD l) = D.sl f (List.map iD l) ∧ D.int IntKind.i64 s = D.int IntKind.i64 s) (by kernel_rfl) ?_
    exact ⟨by simp; omega, (), by rw [List.drop_of_length_le h]; rfl, rfl, rfl, rfl⟩
def sp13' (f : Bool) (t s : Int) : WLoop :=
  { St := List Int × List Int
    O := List Int
    T := fun x => [(0, .int .i64 t), (1, .sl f ((x.1 ++ x.2).map iD)), (5, .int .i64 s), (9, .int .i64 (t - (bases t s x.1).sum)), (8, .ms 0 0 (x.1 ++ x.2).length (x.1 ++ x.2).length true), (42, .sl f ((x.1 ++ x.2).map iD)), (43, .int .i64 ((x.1 ++ x.2).map iD).length), (44, .int .i64 x.1.length)]
    S := fun x => [some (.row .own 1 ((bases t s x.1 ++ List.replicate x.2.length 0).map iD))]
    ok := fun x => x.1.length + x.2.length ≤ 100 ∧ (∀ p ∈ x.1 ++ x.2, -9223372036854775808 ≤ p ∧ p ≤ s) ∧ 0 ≤ t ∧ t ≤ 1000000 ∧ 0 < s ∧ s ≤ 4611686018427387904
    μ := fun x => x.2.length
    m := fun x => x.1 ++ x.2
    src := [(0, true)]
    outs := [{ α := List Int, is := fun o a => a = o, ex := .exit 2, src := [(0, true)], T := fun a => [(1, .sl f (a.map iD)), (9, .int .i64 (t - (bases t s a).sum)), (8, .ms 0 0 a.length a.length true)], S := fun a => [some (.row .own 1 ((bases t s a).map iD))] }] }
theorem sp13'R (f : Bool) (t s : Int) (x : (sp13' f t s).St) (hx : (sp13' f t s).ok x) : Tri Try.prog 0 92 (lp Try.f53 13) (tb ((sp13' f t s).T x)) ((sp13' f t s).S x) ((sp13' f t s).q 0 x) := by
  obtain ⟨done, rest⟩ := x
  obtain ⟨h1, h2, ht, ht1, hs, hs1⟩ := hx
  simp only at h1 h2
  cases rest with
  | nil =>
    refine round0 (C := cfgH [mdC'] [(45, .f)]) (ctrs_ok ([mdC']) rfl rfl) (by kernel_rfl) (by kernel_rfl) (q := decide ((↑done.length : Int) < (↑(List.map iD (done ++ [])).length : Int)) = false ∧ ∃ (a : List Int), a = done ++ [] ∧ (D.sl f (List.map iD a) = D.sl f (List.map iD (done ++ [])) ∧ D.int IntKind.i64 (t - (bases t s a).sum) = D.int IntKind.i64 (t - (bases t s done).sum) ∧ D.ms (0 : Nat) (0 : Nat) a.length a.length true = D.ms (0 : Nat) (0 : Nat) (done ++ []).length (done ++ []).length true) ∧ (some (Ob.row St.own (1 : Nat) (List.map iD (bases t s a))) = none ∨ some (Ob.row St.own (1 : Nat) (List.map iD (bases t s a))) = some (Ob.row St.own (1 : Nat) (List.map iD (bases t s done ++ []))) ∧ (List.map iD (bases t s done ++ [])).all D.pure = true)) (by kernel_rfl) ?_
    exact ⟨by simp, done, by simp, ⟨by simp, by simp, by simp⟩, .inr ⟨by simp, by simp only [List.append_nil]; exact pure_iD _⟩⟩
  | cons p rest =>
    refine round0 (C := cfgH [mdC'] [(45, .t)]) (ctrs_ok ([mdC']) rfl rfl) (by kernel_rfl) (by kernel_rfl) (q := decide ((↑done.length : Int) < (↑(List.map iD (done ++ p :: rest)).length : Int)) = true ∧ ∃ (y : Int), (0 : Int) ≤ (↑done.length : Int) ∧ (List.map iD (done ++ p :: rest))[(↑done.length : Int).toNat]? = some (D.int IntKind.i64 y) ∧ (rI t ∧ rI (max (0 : Int) y) ∧ rI s) ∧ (0 : Int) ≤ (↑done.length : Int) ∧ (↑done.length : Int) < (↑(done ++ p :: rest).length : Int) ∧ ∃ (x : Int), (List.map iD (bases t s done ++ List.replicate (p :: rest).length (0 : Int)))[(0 : Nat) + (↑done.length : Int).toNat]? = some (D.int IntKind.i64 x) ∧ (0 : Int) ≤ (↑done.length : Int) ∧ (↑done.length : Int) < (↑(done ++ p :: rest).length : Int) ∧ ∃ (x : Int), ((List.map iD (bases t s done ++ List.replicate (p :: rest).length (0 : Int))).set ((0 : Nat) + (↑done.length : Int).toNat) (D.int IntKind.i64 (mdI t (max (0 : Int) y) s).fst))[(0 : Nat) + (↑done.length : Int).toNat]? = some (D.int IntKind.i64 x) ∧ inK IntKind.i64 (t - (bases t s done).sum - x) ∧ inK IntKind.i64 ((↑done.length : Int) + (1 : Int)) ∧ ∃ (s' : List Int × List Int), (s'.fst.length + s'.snd.length ≤ (100 : Nat) ∧ (∀ (p : Int), List.Mem p (s'.fst ++ s'.snd) → (-9223372036854775808 : Int) ≤ p ∧ p ≤ s) ∧ (0 : Int) ≤ t ∧ t ≤ (1000000 : Int) ∧ (0 : Int) < s ∧ s ≤ (4611686018427387904 : Int)) ∧ s'.snd.length.succ ≤ (p :: rest).length ∧ s'.fst ++ s'.snd = done ++ p :: rest ∧ (D.int IntKind.i64 t = D.int IntKind.i64 t ∧ D.sl f (List.map iD (s'.fst ++ s'.snd)) = D.sl f (List.map iD (done ++ p :: rest)) ∧ D.int IntKind.i64 s = D.int IntKind.i64 s ∧ D.int IntKind.i64 (t - (bases t s s'.fst).sum) = D.int IntKind.i64 (t - (bases t s done).sum - x) ∧ D.ms (0 : Nat) (0 : Nat) (s'.fst ++ s'.snd).length (s'.fst ++ s'.snd).length true = D.ms (0 : Nat) (0 : Nat) (done ++ p :: rest).length (done ++ p :: rest).length true ∧ D.sl f (List.map iD (s'.fst ++ s'.snd)) = D.sl f (List.map iD (done ++ p :: rest)) ∧ D.int IntKind.i64 (↑(List.map iD (s'.fst ++ s'.snd)).length : Int) = D.int IntKind.i64 (↑(List.map iD (done ++ p :: rest)).length : Int) ∧ D.int IntKind.i64 (↑s'.fst.length : Int) = D.int IntKind.i64 ((↑done.length : Int) + (1 : Int))) ∧ (some (Ob.row St.own (1 : Nat) (List.map iD (bases t s s'.fst ++ List.replicate s'.snd.length (0 : Int)))) = none ∨ some (Ob.row St.own (1 : Nat) (List.map iD (bases t s s'.fst ++ List.replicate s'.snd.length (0 : Int)))) = some (Ob.row St.own (1 : Nat) ((List.map iD (bases t s done ++ List.replicate (p :: rest).length (0 : Int))).set ((0 : Nat) + (↑done.length : Int).toNat) (D.int IntKind.i64 (mdI t (max (0 : Int) y) s).fst))) ∧ ((List.map iD (bases t s done ++ List.replicate (p :: rest).length (0 : Int))).set ((0 : Nat) + (↑done.length : Int).toNat) (D.int IntKind.i64 (mdI t (max (0 : Int) y) s).fst)).all D.pure = true)) (by kernel_rfl) ?_
    have hl : (done ++ p :: rest).length = done.length + rest.length + 1 := by simp; omega
    simp only [List.length_cons] at h1
    obtain ⟨p1, p2⟩ := h2 p (by simp)
    obtain ⟨b1, b2⟩ := bases_le ht ht1 hs (l := done) fun q hq => (h2 q (by simp [hq])).2
    obtain ⟨v1, v2, _⟩ := baseV_bound ht ht1 hs (p := p) (by omega)
    have sg : (mdI t (max p 0) s).fst = baseV t s p := rfl
    have sg' : (mdI t (max 0 p) s).fst = baseV t s p := by rw [Int.max_comm]; exact sg
    have rg := row_get (bases_len t s done) 0 (List.replicate rest.length 0)
    have rs := row_set (bases_len t s done) 0 (baseV t s p) (List.replicate rest.length 0)
    have rg2 := row_get (bases_len t s done) (baseV t s p) (List.replicate rest.length 0)
    refine ⟨by rw [List.length_map, hl]; simp; omega, p, by omega, get_midI iD _ _ _, ⟨by unfold rI; omega, by unfold rI; omega, by unfold rI; omega⟩, by omega, by rw [hl]; omega, 0, rg, by omega, by rw [hl]; omega, baseV t s p, ?_, by simp only [inK]; omega, by simp only [inK]; omega, (done ++ [p], rest), ?_, ?_, by simp, ⟨by simp, by simp, by simp, by rw [bases_snoc, sum_snoc]; congr 1; omega, by simp, by simp, by simp, by simp⟩, .inr ⟨?_, ?_⟩⟩
    · rw [List.length_cons, List.replicate_succ]
      first | rw [sg] | rw [sg']
      exact (congrArg (fun z => z[0 + ((done.length : Int)).toNat]?) rs).trans rg2
    · simp only [List.append_assoc, List.singleton_append, List.length_append, List.length_singleton]; exact ⟨by omega, h2, ht, ht1, hs, hs1⟩
    · simp
    · rw [List.length_cons, List.replicate_succ]
      first | rw [sg] | rw [sg']
      refine congrArg (fun z => some (Ob.row St.own 1 z)) ?_
      refine Eq.trans ?_ rs.symm
      simp [bases_snoc]
    · rw [List.length_cons, List.replicate_succ]
      first | rw [sg] | rw [sg']
      exact (congrArg (fun z => List.all z D.pure) rs).trans (pure_iD _)

def sp19' (f : Bool) (l : List Int) : WLoop :=
  { St := Int × List Int × List Int × List Int × List Int
    O := Int × List Int
    T := fun x => [(1, .sl f ((x.2.1 ++ x.2.2.2.1).map iD)), (9, .int .i64 x.1), (8, .ms 0 0 (x.2.1 ++ x.2.2.2.1).length (x.2.1 ++ x.2.2.2.1).length true), (69, .sl f ((x.2.1 ++ x.2.2.2.1).map iD)), (70, .int .i64 ((x.2.1 ++ x.2.2.2.1).map iD).length), (71, .int .i64 x.2.1.length)]
    S := fun x => [some (.row .own 1 ((x.2.2.1 ++ x.2.2.2.2).map iD))]
    ok := fun x => l = x.2.1 ++ x.2.2.2.1 ∧ x.2.1.length = x.2.2.1.length ∧ x.2.2.2.1.length = x.2.2.2.2.length ∧ x.2.1.length + x.2.2.2.1.length ≤ 100 ∧ 0 ≤ x.1 ∧ x.1 ≤ 1000000 ∧ ∀ o ∈ x.2.2.2.2, 0 ≤ o ∧ o ≤ 1000000
    μ := fun x => x.2.2.2.1.length
    m := fun x => ((give x.1 x.2.2.2.1 x.2.2.2.2).1, x.2.2.1 ++ (give x.1 x.2.2.2.1 x.2.2.2.2).2)
    src := [(0, true)]
    outs := [{ α := Int × List Int, is := fun o a => a = o, ex := .exit 6, src := [(0, true)], T := fun a => [(1, .sl f (l.map iD)), (9, .int .i64 a.1), (8, .ms 0 0 a.2.length a.2.length true)], S := fun a => [some (.row .own 1 (a.2.map iD))] }] }
theorem sp19'R (f : Bool) (l : List Int) (x : (sp19' f l).St) (hx : (sp19' f l).ok x) : Tri Try.prog 0 92 (lp Try.f53 20) (tb ((sp19' f l).T x)) ((sp19' f l).S x) ((sp19' f l).q 0 x) := by
  obtain ⟨left, done, outs, rest, bs⟩ := x
  obtain ⟨h0, h1, h2, h3, h4, h5, h6⟩ := hx
  simp only at h0 h1 h2 h3 h4 h5 h6
  cases rest with
  | nil =>
    obtain rfl : bs = [] := List.eq_nil_of_length_eq_zero (by simpa using h2.symm)
    refine round0 (C := cfgH [] [(72, .f)]) (ctrs_ok ([]) rfl rfl) (by kernel_rfl) (by kernel_rfl) (q := decide ((↑done.length : Int) < (↑(List.map iD (done ++ [])).length : Int)) = false ∧ ∃ (a : Int × List Int), a = (left, outs ++ []) ∧ (D.sl f (List.map iD l) = D.sl f (List.map iD (done ++ [])) ∧ D.int IntKind.i64 a.fst = D.int IntKind.i64 left ∧ D.ms (0 : Nat) (0 : Nat) a.snd.length a.snd.length true = D.ms (0 : Nat) (0 : Nat) (done ++ []).length (done ++ []).length true) ∧ (some (Ob.row St.own (1 : Nat) (List.map iD a.snd)) = none ∨ some (Ob.row St.own (1 : Nat) (List.map iD a.snd)) = some (Ob.row St.own (1 : Nat) (List.map iD (outs ++ []))) ∧ (List.map iD (outs ++ [])).all D.pure = true)) (by kernel_rfl) ?_
    refine ⟨by simp, (left, outs), by simp [give], ⟨by simp [h0], by simp, by simp [h1]⟩, .inr ⟨by simp, by simp only [List.append_nil]; exact pure_iD _⟩⟩
  | cons p rest =>
    cases bs with
    | nil => simp at h2
    | cons o bs =>
    have hl : (done ++ p :: rest).length = done.length + rest.length + 1 := by simp; omega
    simp only [List.length_cons] at h2 h3
    obtain ⟨o1, o2⟩ := h6 o (by simp)
    have rg := row_get h1.symm o bs
    have rs := row_set h1.symm o (o + 1) bs
    by_cases hc : 0 < p ∧ 0 < left
    · refine round0 (C := cfgH [] [(72, .t), (78, .t), (81, .t)]) (ctrs_ok ([]) rfl rfl) (by kernel_rfl) (by kernel_rfl) (q := decide ((↑done.length : Int) < (↑(List.map iD (done ++ p :: rest)).length : Int)) = true ∧ ∃ (y : Int), (0 : Int) ≤ (↑done.length : Int) ∧ (List.map iD (done ++ p :: rest))[(↑done.length : Int).toNat]? = some (D.int IntKind.i64 y) ∧ decide ((0 : Int) < y) = true ∧ decide ((0 : Int) < left) = true ∧ (0 : Int) ≤ (↑done.length : Int) ∧ (↑done.length : Int) < (↑(done ++ p :: rest).length : Int) ∧ ∃ (x : Int), (List.map iD (outs ++ o :: bs))[(0 : Nat) + (↑done.length : Int).toNat]? = some (D.int IntKind.i64 x) ∧ inK IntKind.i64 (x + (1 : Int)) ∧ (0 : Int) ≤ (↑done.length : Int) ∧ (↑done.length : Int) < (↑(done ++ p :: rest).length : Int) ∧ ∃ (x_1 : Int), (List.map iD (outs ++ o :: bs))[(0 : Nat) + (↑done.length : Int).toNat]? = some (D.int IntKind.i64 x_1) ∧ inK IntKind.i64 (left - (1 : Int)) ∧ inK IntKind.i64 ((↑done.length : Int) + (1 : Int)) ∧ ∃ (s' : Int × List Int × List Int × List Int × List Int), (l = s'.snd.fst ++ s'.snd.snd.snd.fst ∧ s'.snd.fst.length = s'.snd.snd.fst.length ∧ s'.snd.snd.snd.fst.length = s'.snd.snd.snd.snd.length ∧ s'.snd.fst.length + s'.snd.snd.snd.fst.length ≤ (100 : Nat) ∧ (0 : Int) ≤ s'.fst ∧ s'.fst ≤ (1000000 : Int) ∧ ∀ (o : Int), List.Mem o s'.snd.snd.snd.snd → (0 : Int) ≤ o ∧ o ≤ (1000000 : Int)) ∧ s'.snd.snd.snd.fst.length.succ ≤ (p :: rest).length ∧ ((give s'.fst s'.snd.snd.snd.fst s'.snd.snd.snd.snd).fst, s'.snd.snd.fst ++ (give s'.fst s'.snd.snd.snd.fst s'.snd.snd.snd.snd).snd) = ((give left (p :: rest) (o :: bs)).fst, outs ++ (give left (p :: rest) (o :: bs)).snd) ∧ (D.sl f (List.map iD (s'.snd.fst ++ s'.snd.snd.snd.fst)) = D.sl f (List.map iD (done ++ p :: rest)) ∧ D.int IntKind.i64 s'.fst = D.int IntKind.i64 (left - (1 : Int)) ∧ D.ms (0 : Nat) (0 : Nat) (s'.snd.fst ++ s'.snd.snd.snd.fst).length (s'.snd.fst ++ s'.snd.snd.snd.fst).length true = D.ms (0 : Nat) (0 : Nat) (done ++ p :: rest).length (done ++ p :: rest).length true ∧ D.sl f (List.map iD (s'.snd.fst ++ s'.snd.snd.snd.fst)) = D.sl f (List.map iD (done ++ p :: rest)) ∧ D.int IntKind.i64 (↑(List.map iD (s'.snd.fst ++ s'.snd.snd.snd.fst)).length : Int) = D.int IntKind.i64 (↑(List.map iD (done ++ p :: rest)).length : Int) ∧ D.int IntKind.i64 (↑s'.snd.fst.length : Int) = D.int IntKind.i64 ((↑done.length : Int) + (1 : Int))) ∧ (some (Ob.row St.own (1 : Nat) (List.map iD (s'.snd.snd.fst ++ s'.snd.snd.snd.snd))) = none ∨ some (Ob.row St.own (1 : Nat) (List.map iD (s'.snd.snd.fst ++ s'.snd.snd.snd.snd))) = some (Ob.row St.own (1 : Nat) ((List.map iD (outs ++ o :: bs)).set ((0 : Nat) + (↑done.length : Int).toNat) (D.int IntKind.i64 (x + (1 : Int))))) ∧ ((List.map iD (outs ++ o :: bs)).set ((0 : Nat) + (↑done.length : Int).toNat) (D.int IntKind.i64 (x + (1 : Int)))).all D.pure = true)) (by kernel_rfl) ?_
      have gv : give left (p :: rest) (o :: bs) = ((give (left - 1) rest bs).1, (o + 1) :: (give (left - 1) rest bs).2) := by rw [give, if_pos hc]
      refine ⟨by rw [List.length_map, hl]; simp; omega, p, by omega, get_midI iD _ _ _, decide_eq_true hc.1, decide_eq_true hc.2, ?_⟩
      refine ⟨by omega, by rw [hl]; omega, o, rg, by simp only [inK]; omega, by omega, by rw [hl]; omega, o, rg, ?_⟩
      refine ⟨by simp only [inK]; omega, by simp only [inK]; omega, (left - 1, done ++ [p], outs ++ [o + 1], rest, bs), ?_, ?_, ?_, ⟨by simp, by simp, by simp, by simp, by simp, by simp⟩, .inr ⟨?_, ?_⟩⟩
      · exact ⟨by rw [h0]; simp, by simp; omega, (show rest.length = bs.length by omega), by simp; omega, (show 0 ≤ left - 1 by omega), (show left - 1 ≤ 1000000 by omega), fun z hz => h6 z (List.mem_cons_of_mem _ hz)⟩
      · simp
      · simp [gv]
      · refine congrArg (fun z => some (Ob.row St.own 1 z)) ?_
        refine Eq.trans ?_ rs.symm
        simp
      · exact (congrArg (fun z => List.all z D.pure) rs).trans (pure_iD _)
    · rcases Int.lt_or_le 0 p with hp | hp
      · have hlf : ¬ 0 < left := fun h => hc ⟨hp, h⟩
        refine round0 (C := cfgH [] [(72, .t), (78, .t), (81, .f)]) (ctrs_ok ([]) rfl rfl) (by kernel_rfl) (by kernel_rfl) (q := decide ((↑done.length : Int) < (↑(List.map iD (done ++ p :: rest)).length : Int)) = true ∧ ∃ (y : Int), (0 : Int) ≤ (↑done.length : Int) ∧ (List.map iD (done ++ p :: rest))[(↑done.length : Int).toNat]? = some (D.int IntKind.i64 y) ∧ decide ((0 : Int) < y) = true ∧ decide ((0 : Int) < left) = false ∧ inK IntKind.i64 ((↑done.length : Int) + (1 : Int)) ∧ ∃ (s' : Int × List Int × List Int × List Int × List Int), (l = s'.snd.fst ++ s'.snd.snd.snd.fst ∧ s'.snd.fst.length = s'.snd.snd.fst.length ∧ s'.snd.snd.snd.fst.length = s'.snd.snd.snd.snd.length ∧ s'.snd.fst.length + s'.snd.snd.snd.fst.length ≤ (100 : Nat) ∧ (0 : Int) ≤ s'.fst ∧ s'.fst ≤ (1000000 : Int) ∧ ∀ (o : Int), List.Mem o s'.snd.snd.snd.snd → (0 : Int) ≤ o ∧ o ≤ (1000000 : Int)) ∧ s'.snd.snd.snd.fst.length.succ ≤ (p :: rest).length ∧ ((give s'.fst s'.snd.snd.snd.fst s'.snd.snd.snd.snd).fst, s'.snd.snd.fst ++ (give s'.fst s'.snd.snd.snd.fst s'.snd.snd.snd.snd).snd) = ((give left (p :: rest) (o :: bs)).fst, outs ++ (give left (p :: rest) (o :: bs)).snd) ∧ (D.sl f (List.map iD (s'.snd.fst ++ s'.snd.snd.snd.fst)) = D.sl f (List.map iD (done ++ p :: rest)) ∧ D.int IntKind.i64 s'.fst = D.int IntKind.i64 left ∧ D.ms (0 : Nat) (0 : Nat) (s'.snd.fst ++ s'.snd.snd.snd.fst).length (s'.snd.fst ++ s'.snd.snd.snd.fst).length true = D.ms (0 : Nat) (0 : Nat) (done ++ p :: rest).length (done ++ p :: rest).length true ∧ D.sl f (List.map iD (s'.snd.fst ++ s'.snd.snd.snd.fst)) = D.sl f (List.map iD (done ++ p :: rest)) ∧ D.int IntKind.i64 (↑(List.map iD (s'.snd.fst ++ s'.snd.snd.snd.fst)).length : Int) = D.int IntKind.i64 (↑(List.map iD (done ++ p :: rest)).length : Int) ∧ D.int IntKind.i64 (↑s'.snd.fst.length : Int) = D.int IntKind.i64 ((↑done.length : Int) + (1 : Int))) ∧ (some (Ob.row St.own (1 : Nat) (List.map iD (s'.snd.snd.fst ++ s'.snd.snd.snd.snd))) = none ∨ some (Ob.row St.own (1 : Nat) (List.map iD (s'.snd.snd.fst ++ s'.snd.snd.snd.snd))) = some (Ob.row St.own (1 : Nat) (List.map iD (outs ++ o :: bs))) ∧ (List.map iD (outs ++ o :: bs)).all D.pure = true)) (by kernel_rfl) ?_
        have gv : give left (p :: rest) (o :: bs) = ((give left rest bs).1, o :: (give left rest bs).2) := by rw [give, if_neg hc]
        refine ⟨by rw [List.length_map, hl]; simp; omega, p, by omega, get_midI iD _ _ _, decide_eq_true hp, decide_eq_false hlf, ?_⟩
        refine ⟨by simp only [inK]; omega, (left, done ++ [p], outs ++ [o], rest, bs), ?_, ?_, ?_, ⟨by simp, by simp, by simp, by simp, by simp, by simp⟩, .inr ⟨?_, ?_⟩⟩
        · exact ⟨by rw [h0]; simp, by simp; omega, (show rest.length = bs.length by omega), by simp; omega, h4, h5, fun z hz => h6 z (List.mem_cons_of_mem _ hz)⟩
        · simp
        · simp [gv]
        · simp
        · exact pure_iD _
      · have hp' : ¬ 0 < p := by omega
        refine round0 (C := cfgH [] [(72, .t), (78, .f)]) (ctrs_ok ([]) rfl rfl) (by kernel_rfl) (by kernel_rfl) (q := decide ((↑done.length : Int) < (↑(List.map iD (done ++ p :: rest)).length : Int)) = true ∧ ∃ (y : Int), (0 : Int) ≤ (↑done.length : Int) ∧ (List.map iD (done ++ p :: rest))[(↑done.length : Int).toNat]? = some (D.int IntKind.i64 y) ∧ decide ((0 : Int) < y) = false ∧ inK IntKind.i64 ((↑done.length : Int) + (1 : Int)) ∧ ∃ (s' : Int × List Int × List Int × List Int × List Int), (l = s'.snd.fst ++ s'.snd.snd.snd.fst ∧ s'.snd.fst.length = s'.snd.snd.fst.length ∧ s'.snd.snd.snd.fst.length = s'.snd.snd.snd.snd.length ∧ s'.snd.fst.length + s'.snd.snd.snd.fst.length ≤ (100 : Nat) ∧ (0 : Int) ≤ s'.fst ∧ s'.fst ≤ (1000000 : Int) ∧ ∀ (o : Int), List.Mem o s'.snd.snd.snd.snd → (0 : Int) ≤ o ∧ o ≤ (1000000 : Int)) ∧ s'.snd.snd.snd.fst.length.succ ≤ (p :: rest).length ∧ ((give s'.fst s'.snd.snd.snd.fst s'.snd.snd.snd.snd).fst, s'.snd.snd.fst ++ (give s'.fst s'.snd.snd.snd.fst s'.snd.snd.snd.snd).snd) = ((give left (p :: rest) (o :: bs)).fst, outs ++ (give left (p :: rest) (o :: bs)).snd) ∧ (D.sl f (List.map iD (s'.snd.fst ++ s'.snd.snd.snd.fst)) = D.sl f (List.map iD (done ++ p :: rest)) ∧ D.int IntKind.i64 s'.fst = D.int IntKind.i64 left ∧ D.ms (0 : Nat) (0 : Nat) (s'.snd.fst ++ s'.snd.snd.snd.fst).length (s'.snd.fst ++ s'.snd.snd.snd.fst).length true = D.ms (0 : Nat) (0 : Nat) (done ++ p :: rest).length (done ++ p :: rest).length true ∧ D.sl f (List.map iD (s'.snd.fst ++ s'.snd.snd.snd.fst)) = D.sl f (List.map iD (done ++ p :: rest)) ∧ D.int IntKind.i64 (↑(List.map iD (s'.snd.fst ++ s'.snd.snd.snd.fst)).length : Int) = D.int IntKind.i64 (↑(List.map iD (done ++ p :: rest)).length : Int) ∧ D.int IntKind.i64 (↑s'.snd.fst.length : Int) = D.int IntKind.i64 ((↑done.length : Int) + (1 : Int))) ∧ (some (Ob.row St.own (1 : Nat) (List.map iD (s'.snd.snd.fst ++ s'.snd.snd.snd.snd))) = none ∨ some (Ob.row St.own (1 : Nat) (List.map iD (s'.snd.snd.fst ++ s'.snd.snd.snd.snd))) = some (Ob.row St.own (1 : Nat) (List.map iD (outs ++ o :: bs))) ∧ (List.map iD (outs ++ o :: bs)).all D.pure = true)) (by kernel_rfl) ?_
        have gv : give left (p :: rest) (o :: bs) = ((give left rest bs).1, o :: (give left rest bs).2) := by rw [give, if_neg hc]
        refine ⟨by rw [List.length_map, hl]; simp; omega, p, by omega, get_midI iD _ _ _, decide_eq_false hp', ?_⟩
        refine ⟨by simp only [inK]; omega, (left, done ++ [p], outs ++ [o], rest, bs), ?_, ?_, ?_, ⟨by simp, by simp, by simp, by simp, by simp, by simp⟩, .inr ⟨?_, ?_⟩⟩
        · exact ⟨by rw [h0]; simp, by simp; omega, (show rest.length = bs.length by omega), by simp; omega, h4, h5, fun z hz => h6 z (List.mem_cons_of_mem _ hz)⟩
        · simp
        · simp [gv]
        · simp
        · exact pure_iD _

def sp18 (f : Bool) (l : List Int) : WLoop :=
  { St := Int × List Int
    O := List Int
    T := fun x => [(1, .sl f (l.map iD)), (8, .ms 0 0 l.length l.length true), (9, .int .i64 x.1)]
    S := fun x => [some (.row .own 1 (x.2.map iD))]
    ok := fun x => l.length = x.2.length ∧ l.length ≤ 100 ∧ 0 ≤ x.1 ∧ x.1 ≤ 1000000 ∧ x.1 ≤ npos l ∧ (0 < x.1 → ∀ o ∈ x.2, 0 ≤ o ∧ o ≤ 1000000)
    μ := fun x => x.1.toNat
    m := fun x => (give x.1 l x.2).2
    src := [(0, true)]
    outs := [{ α := List Int, is := fun o a => a = o, ex := .exit 4, src := [(0, true)], T := fun a => [(8, .ms 0 0 l.length l.length true)], S := fun a => [some (.row .own 1 (a.map iD))] }] }
def sp18C (f : Bool) (l : List Int) : WCfg := { cfgH [] [(68, .t)] with loops := fun k => match k with | 20 => some ((sp19' f l).row [(0, true)]) | _ => none }
theorem sp18R (f : Bool) (l : List Int) (x : (sp18 f l).St) (hx : (sp18 f l).ok x) : Tri Try.prog 0 92 (lp Try.f53 18) (tb ((sp18 f l).T x)) ((sp18 f l).S x) ((sp18 f l).q 0 x) := by
  obtain ⟨left, outs⟩ := x
  obtain ⟨h1, h2, h3, h4, h5, h6⟩ := hx
  simp only at h1 h2 h3 h4 h5 h6
  rcases Int.lt_or_le 0 left with h | h
  · refine roundL (C := sp18C f l) (ctrs_ok ([]) rfl rfl) (by kernel_rfl) (l := [lp Try.f53 20]) (by kernel_rfl) ?_ (q := decide ((0 : Int) < left) = true ∧ ∃ (b : Int × List Int × List Int × List Int × List Int), (l = b.snd.fst ++ b.snd.snd.snd.fst ∧ b.snd.fst.length = b.snd.snd.fst.length ∧ b.snd.snd.snd.fst.length = b.snd.snd.snd.snd.length ∧ b.snd.fst.length + b.snd.snd.snd.fst.length ≤ (100 : Nat) ∧ (0 : Int) ≤ b.fst ∧ b.fst ≤ (1000000 : Int) ∧ ∀ (o : Int), List.Mem o b.snd.snd.snd.snd → (0 : Int) ≤ o ∧ o ≤ (1000000 : Int)) ∧ ((D.sl f (List.map iD (b.snd.fst ++ b.snd.snd.snd.fst)) = D.sl f (List.map iD l) ∧ D.int IntKind.i64 b.fst = D.int IntKind.i64 left ∧ D.ms (0 : Nat) (0 : Nat) (b.snd.fst ++ b.snd.snd.snd.fst).length (b.snd.fst ++ b.snd.snd.snd.fst).length true = D.ms (0 : Nat) (0 : Nat) l.length l.length true ∧ D.sl f (List.map iD (b.snd.fst ++ b.snd.snd.snd.fst)) = D.sl f (List.map iD l) ∧ D.int IntKind.i64 (↑(List.map iD (b.snd.fst ++ b.snd.snd.snd.fst)).length : Int) = D.int IntKind.i64 (↑(List.map iD l).length : Int) ∧ D.int IntKind.i64 (↑b.snd.fst.length : Int) = D.int IntKind.i64 (0 : Int)) ∧ (some (Ob.row St.own (1 : Nat) (List.map iD (b.snd.snd.fst ++ b.snd.snd.snd.snd))) = none ∨ some (Ob.row St.own (1 : Nat) (List.map iD (b.snd.snd.fst ++ b.snd.snd.snd.snd))) = some (Ob.row St.own (1 : Nat) (List.map iD outs)) ∧ (List.map iD outs).all D.pure = true)) ∧ ∀ (a : Int × List Int), a = ((give b.fst b.snd.snd.snd.fst b.snd.snd.snd.snd).fst, b.snd.snd.fst ++ (give b.fst b.snd.snd.snd.fst b.snd.snd.snd.snd).snd) → ∃ (s' : Int × List Int), (l.length = s'.snd.length ∧ l.length ≤ (100 : Nat) ∧ (0 : Int) ≤ s'.fst ∧ s'.fst ≤ (1000000 : Int) ∧ s'.fst ≤ npos l ∧ ((0 : Int) < s'.fst → ∀ (o : Int), List.Mem o s'.snd → (0 : Int) ≤ o ∧ o ≤ (1000000 : Int))) ∧ s'.fst.toNat.succ ≤ left.toNat ∧ (give s'.fst l s'.snd).snd = (give left l outs).snd ∧ (D.sl f (List.map iD l) = D.sl f (List.map iD l) ∧ D.ms (0 : Nat) (0 : Nat) l.length l.length true = D.ms (0 : Nat) (0 : Nat) a.snd.length a.snd.length true ∧ D.int IntKind.i64 s'.fst = D.int IntKind.i64 a.fst) ∧ (some (Ob.row St.own (1 : Nat) (List.map iD s'.snd)) = none ∨ some (Ob.row St.own (1 : Nat) (List.map iD s'.snd)) = some (Ob.row St.own (1 : Nat) (List.map iD a.snd)) ∧ (List.map iD a.snd).all D.pure = true)) (by kernel_rfl) ?_
    · intro c hc
      rw [List.mem_singleton.1 hc]
      exact (sp19' f l).fits 20 [(0, true)] (by kernel_rfl) rfl (sp19'R f l)
    have ga := give_all left l outs h1 h3 h5
    have gl := give_len left l outs h1
    refine ⟨decide_eq_true h, (left, [], [], l, outs), ⟨rfl, rfl, h1, by simpa using h2, h3, h4, h6 h⟩, ⟨⟨rfl, rfl, rfl, rfl, rfl, rfl⟩, .inr ⟨by simp, pure_iD _⟩⟩, ?_⟩
    rintro ⟨a1, a2⟩ ha
    injection ha with e1 e2
    have e1 : a1 = 0 := e1.trans ga
    have e2 : a2 = (give left l outs).2 := e2.trans (by simp)
    subst e1 e2
    refine ⟨(0, (give left l outs).2), ⟨gl.symm, h2, by omega, by omega, npos_nonneg l, fun hh => absurd (show (0 : Int) < 0 from hh) (by decide)⟩, ?_, ?_, ⟨rfl, by simp [gl], rfl⟩, .inr ⟨rfl, pure_iD _⟩⟩
    · show Nat.succ (Int.toNat 0) ≤ left.toNat
      omega
    · rw [give_zero _ _ gl.symm]
  · refine roundL (C := cfgH [] [(68, .f)]) (ctrs_ok ([]) rfl rfl) (by kernel_rfl) (l := [lp Try.f53 20]) (by kernel_rfl) ?_ (q := decide ((0 : Int) < left) = false ∧ ∃ (a : List Int), a = (give left l outs).snd ∧ D.ms (0 : Nat) (0 : Nat) l.length l.length true = D.ms (0 : Nat) (0 : Nat) l.length l.length true ∧ (some (Ob.row St.own (1 : Nat) (List.map iD a)) = none ∨ some (Ob.row St.own (1 : Nat) (List.map iD a)) = some (Ob.row St.own (1 : Nat) (List.map iD outs)) ∧ (List.map iD outs).all D.pure = true)) (by kernel_rfl) ?_
    · intro c hc row hr; cases hr
    have : left = 0 := by omega
    subst this
    exact ⟨decide_eq_false (by omega), outs, by rw [give_zero _ _ h1], rfl, .inr ⟨rfl, pure_iD _⟩⟩
def sprS (vs : List D) : Option DOut := match vs with | [.int .i64 t, .sl _ ys] => some ⟨rI t ∧ ys = (ys.map dI).map iD ∧ (∀ p ∈ ys.map dI, rI p) ∧ ys.length ≤ 100, .sl true ((spreadV t (ys.map dI)).map iD)⟩ | _ => none
def sprCfg (f : Bool) (t : Int) (l : List Int) : WCfg := { cfgOf [mdC, sumC] with loops := fun k => match k with | 5 => some ((sp5 f t (sumV l) l).row []) | 13 => some ((sp13 f t (sumV l)).row [(0, true)]) | 19 => some ((sp19 f l).row [(0, true)]) | _ => none }
theorem sprN (f : Bool) (t : Int) (l : List Int) (hl : l.length ≤ 100) (hr : ∀ p ∈ l, rI p) : (List.map iD l = List.map iD (List.map dI (List.map iD l)) ∧ (List.map iD l).length ≤ (9223372036854775807 : Nat)) ∧ (decide (t < (0 : Int)) = true → D.sl true [] = D.sl true (List.map iD (spreadV t l))) ∧ (decide (t < (0 : Int)) = false → (decide ((1000000 : Int) < t) = true → D.sl true [] = D.sl true (List.map iD (spreadV t l))) ∧ (decide ((1000000 : Int) < t) = false → (decide (sumV (List.map dI (List.map iD l)) = (0 : Int)) = true → D.sl true [] = D.sl true (List.map iD (spreadV t l))) ∧ (decide (sumV (List.map dI (List.map iD l)) = (0 : Int)) = false → ∃ (b : Nat), (b ≤ l.length ∧ l.length ≤ (140737488355328 : Nat)) ∧ (D.int IntKind.i64 t = D.int IntKind.i64 t ∧ D.sl f (List.map iD l) = D.sl f (List.map iD l) ∧ D.int IntKind.i64 (sumV l) = D.int IntKind.i64 (sumV (List.map dI (List.map iD l))) ∧ D.sl f (List.map iD l) = D.sl f (List.map iD l) ∧ D.int IntKind.i64 (↑(List.map iD l).length : Int) = D.int IntKind.i64 (↑(List.map iD l).length : Int) ∧ D.int IntKind.i64 (↑b : Int) = D.int IntKind.i64 (0 : Int)) ∧ (∀ (a : Unit), ((List.drop b l).all fun (p : Int) => !decide ((4611686018427387904 : Int) / (↑l.length : Int) < p)) = true → (0 : Int) ≤ (↑(List.map iD l).length : Int) ∧ (↑(List.map iD l).length : Int) ≤ (↑(List.map iD l).length : Int) ∧ (↑(List.map iD l).length : Int) * (8 : Int) ≤ (140737488355328 : Int) ∧ (↑(List.map iD l).length : Int) ≤ (140737488355328 : Int) ∧ ∃ (b : List Int × List Int), (b.fst.length + b.snd.length ≤ (100 : Nat) ∧ (∀ (p : Int), List.Mem p (b.fst ++ b.snd) → (-9223372036854775808 : Int) ≤ p ∧ p ≤ sumV l) ∧ (0 : Int) ≤ t ∧ t ≤ (1000000 : Int) ∧ (0 : Int) < sumV l ∧ sumV l ≤ (4611686018427387904 : Int)) ∧ ((D.int IntKind.i64 t = D.int IntKind.i64 t ∧ D.sl f (List.map iD (b.fst ++ b.snd)) = D.sl f (List.map iD l) ∧ D.int IntKind.i64 (sumV l) = D.int IntKind.i64 (sumV l) ∧ D.int IntKind.i64 (t - (bases t (sumV l) b.fst).sum) = D.int IntKind.i64 t ∧ D.ms (0 : Nat) (0 : Nat) (b.fst ++ b.snd).length (b.fst ++ b.snd).length true = D.ms (0 : Nat) (0 : Nat) (↑(List.map iD l).length : Int).toNat (↑(List.map iD l).length : Int).toNat true ∧ D.sl f (List.map iD (b.fst ++ b.snd)) = D.sl f (List.map iD l) ∧ D.int IntKind.i64 (↑(List.map iD (b.fst ++ b.snd)).length : Int) = D.int IntKind.i64 (↑(List.map iD l).length : Int) ∧ D.int IntKind.i64 (↑b.fst.length : Int) = D.int IntKind.i64 (0 : Int)) ∧ (some (Ob.row St.own (1 : Nat) (List.map iD (bases t (sumV l) b.fst ++ List.replicate b.snd.length (0 : Int)))) = none ∨ some (Ob.row St.own (1 : Nat) (List.map iD (bases t (sumV l) b.fst ++ List.replicate b.snd.length (0 : Int)))) = some (Ob.row St.own (1 : Nat) (List.replicate (↑(List.map iD l).length : Int).toNat (D.int IntKind.i64 (0 : Int)))) ∧ (List.replicate (↑(List.map iD l).length : Int).toNat (D.int IntKind.i64 (0 : Int))).all D.pure = true)) ∧ ∀ (a : List Int), a = b.fst ++ b.snd → ∃ (b : Int × List Int × List Int × List Int × List Int), (l = b.snd.fst ++ b.snd.snd.snd.fst ∧ b.snd.fst.length = b.snd.snd.fst.length ∧ b.snd.snd.snd.fst.length = b.snd.snd.snd.snd.length ∧ b.snd.fst.length + b.snd.snd.snd.fst.length ≤ (100 : Nat) ∧ (0 : Int) ≤ b.fst ∧ b.fst ≤ (1000000 : Int) ∧ ∀ (o : Int), List.Mem o b.snd.snd.snd.snd → (0 : Int) ≤ o ∧ o ≤ (1000000 : Int)) ∧ ((D.int IntKind.i64 b.fst = D.int IntKind.i64 (t - (bases t (sumV l) a).sum) ∧ D.ms (0 : Nat) (0 : Nat) (b.snd.fst ++ b.snd.snd.snd.fst).length (b.snd.fst ++ b.snd.snd.snd.fst).length true = D.ms (0 : Nat) (0 : Nat) a.length a.length true ∧ D.sl f (List.map iD (b.snd.fst ++ b.snd.snd.snd.fst)) = D.sl f (List.map iD a) ∧ D.int IntKind.i64 (↑(List.map iD (b.snd.fst ++ b.snd.snd.snd.fst)).length : Int) = D.int IntKind.i64 (↑(List.map iD a).length : Int) ∧ D.int IntKind.i64 (↑b.snd.fst.length : Int) = D.int IntKind.i64 (0 : Int)) ∧ (some (Ob.row St.own (1 : Nat) (List.map iD (b.snd.snd.fst ++ b.snd.snd.snd.snd))) = none ∨ some (Ob.row St.own (1 : Nat) (List.map iD (b.snd.snd.fst ++ b.snd.snd.snd.snd))) = some (Ob.row St.own (1 : Nat) (List.map iD (bases t (sumV l) a))) ∧ (List.map iD (bases t (sumV l) a)).all D.pure = true)) ∧ ∀ (a : Int × List Int), a = ((give b.fst b.snd.snd.snd.fst b.snd.snd.snd.snd).fst, b.snd.snd.fst ++ (give b.fst b.snd.snd.snd.fst b.snd.snd.snd.snd).snd) → (0 : Nat) + a.snd.length ≤ (List.map iD a.snd).length ∧ (List.take a.snd.length (List.drop (0 : Nat) (List.map iD a.snd))).all D.pure = true ∧ D.sl (true && decide (a.snd.length = a.snd.length)) (List.take a.snd.length (List.drop (0 : Nat) (List.map iD a.snd))) = D.sl true (List.map iD (spreadV t l))) ∧ ∀ (a : Unit), ((List.drop b l).all fun (p : Int) => !decide ((4611686018427387904 : Int) / (↑l.length : Int) < p)) = false → D.sl true [] = D.sl true (List.map iD (spreadV t l))))) := by
  rw [map_dI]
  have e0 : ∀ h : (t < 0 ∨ 1000000 < t ∨ sumV l = 0 ∨ ∃ p ∈ l, 4611686018427387904 / (l.length : Int) < p), D.sl true [] = D.sl true (List.map iD (spreadV t l)) := fun h => by unfold spreadV; rw [if_pos h]; rfl
  refine ⟨⟨rfl, by simp; omega⟩, chks (fun h => e0 (.inl h)) fun h1 => chks (fun h => e0 (.inr (.inl h))) fun h2 => chks (fun h => e0 (.inr (.inr (.inl h)))) fun h3 => ?_⟩
  refine ⟨0, ⟨by omega, by omega⟩, ⟨rfl, rfl, rfl, rfl, rfl, rfl⟩, fun _ hall => ?_, fun _ hall => e0 (.inr (.inr (.inr ?_)))⟩
  · have hno : ∀ p ∈ l, ¬ 4611686018427387904 / (l.length : Int) < p := by
      intro p hp
      rw [List.drop_zero, List.all_eq_true] at hall
      simpa using hall p hp
    have hS := sumV_tot hno
    have tn := tot_nonneg l
    have hpos : 0 < tot l := by omega
    have hmax : sumV l ≤ 4611686018427387904 := by unfold sumV; omega
    obtain ⟨lb1, lb2⟩ := left_bound (t := t) (by omega) (by omega) hpos
    have bb := bases_sum_nonneg (t := t) (by omega) (by omega) hpos l fun p hp => tot_mem hp
    have hsp : spreadV t l = (give (t - (bases t (sumV l) l).sum) l (bases t (sumV l) l)).2 := by
      unfold spreadV
      rw [if_neg]
      rintro (h | h | h | ⟨p, hp, h⟩)
      · exact h1 h
      · exact h2 h
      · exact h3 h
      · exact hno p hp h
    rw [← hS] at lb1 lb2 bb
    have hbl := bases_len t (sumV l) l
    have hb1 : ∀ o ∈ bases t (sumV l) l, 0 ≤ o ∧ o ≤ 1000000 := by
      intro o ho
      obtain ⟨p, hp, rfl⟩ := List.mem_map.1 ho
      obtain ⟨v1, v2, _⟩ := baseV_bound (t := t) (s := sumV l) (p := p) (by omega) (by omega) (by omega) (by rw [hS]; exact tot_mem hp)
      omega
    have gl := give_len (t - (bases t (sumV l) l).sum) l (bases t (sumV l) l) hbl.symm
    have lm : (l.map iD).length = l.length := List.length_map ..
    refine ⟨by omega, by omega, by rw [lm]; omega, by rw [lm]; omega, ([], l), ⟨by simpa using hl, fun p hp => ⟨(hr p hp).1, ?_⟩, by omega, by omega, by omega, hmax⟩, ⟨⟨rfl, rfl, rfl, by simp [bases], by simp, rfl, rfl, rfl⟩, .inr ⟨by simp [bases, iD], ?_⟩⟩, ?_⟩
    · have := tot_mem (show p ∈ l from hp); show p ≤ sumV l; omega
    · rw [List.all_eq_true]; intro d hd; rw [(List.mem_replicate.1 hd).2]; rfl
    intro a ha
    have ha' : l = a := ha.symm
    subst ha'
    refine ⟨(t - (bases t (sumV l) l).sum, [], [], l, bases t (sumV l) l), ⟨rfl, rfl, hbl.symm, by simpa using hl, lb1, (show t - (bases t (sumV l) l).sum ≤ 1000000 by omega), hb1⟩, ⟨⟨rfl, rfl, rfl, rfl, rfl⟩, .inr ⟨rfl, pure_iD _⟩⟩, ?_⟩
    rintro ⟨a1, a2⟩ ha
    injection ha with ha1 ha2
    have ha2 : a2 = spreadV t l := by rw [hsp]; simpa using ha2
    subst ha2
    refine ⟨by simp, ?_, ?_⟩
    · rw [List.drop_zero, List.take_of_length_le (by simp)]; exact pure_iD _
    · rw [List.drop_zero, List.take_of_length_le (by simp)]; simp
  · rw [List.drop_zero, List.all_eq_false] at hall
    obtain ⟨p, hp, h⟩ := hall
    exact ⟨p, hp, by simpa using h⟩
def sprCfg' (f : Bool) (t : Int) (l : List Int) : WCfg := { cfgOf [mdC', sumC'] with loops := fun k => match k with | 5 => some ((sp5' f t (sumV l) l).row []) | 13 => some ((sp13' f t (sumV l)).row [(0, true)]) | 18 => some ((sp18 f l).row [(0, true)]) | _ => none }
theorem sprN' (f : Bool) (t : Int) (l : List Int) (hl : l.length ≤ 100) (hr : ∀ p ∈ l, rI p) : (List.map iD l = List.map iD (List.map dI (List.map iD l)) ∧ (List.map iD l).length ≤ (9223372036854775807 : Nat)) ∧ (decide (t < (0 : Int)) = true → D.sl true [] = D.sl true (List.map iD (spreadV t l))) ∧ (decide (t < (0 : Int)) = false → (decide ((1000000 : Int) < t) = true → D.sl true [] = D.sl true (List.map iD (spreadV t l))) ∧ (decide ((1000000 : Int) < t) = false → (decide (sumV (List.map dI (List.map iD l)) = (0 : Int)) = true → D.sl true [] = D.sl true (List.map iD (spreadV t l))) ∧ (decide (sumV (List.map dI (List.map iD l)) = (0 : Int)) = false → ∃ (b : Nat), (b ≤ l.length ∧ l.length ≤ (140737488355328 : Nat)) ∧ (D.int IntKind.i64 t = D.int IntKind.i64 t ∧ D.sl f (List.map iD l) = D.sl f (List.map iD l) ∧ D.int IntKind.i64 (sumV l) = D.int IntKind.i64 (sumV (List.map dI (List.map iD l))) ∧ D.sl f (List.map iD l) = D.sl f (List.map iD l) ∧ D.int IntKind.i64 (↑(List.map iD l).length : Int) = D.int IntKind.i64 (↑(List.map iD l).length : Int) ∧ D.int IntKind.i64 (↑b : Int) = D.int IntKind.i64 (0 : Int)) ∧ (∀ (a : Unit), ((List.drop b l).all fun (p : Int) => !decide ((4611686018427387904 : Int) / (↑l.length : Int) < p)) = true → (0 : Int) ≤ (↑(List.map iD l).length : Int) ∧ (↑(List.map iD l).length : Int) ≤ (↑(List.map iD l).length : Int) ∧ (↑(List.map iD l).length : Int) * (8 : Int) ≤ (140737488355328 : Int) ∧ (↑(List.map iD l).length : Int) ≤ (140737488355328 : Int) ∧ ∃ (b : List Int × List Int), (b.fst.length + b.snd.length ≤ (100 : Nat) ∧ (∀ (p : Int), List.Mem p (b.fst ++ b.snd) → (-9223372036854775808 : Int) ≤ p ∧ p ≤ sumV l) ∧ (0 : Int) ≤ t ∧ t ≤ (1000000 : Int) ∧ (0 : Int) < sumV l ∧ sumV l ≤ (4611686018427387904 : Int)) ∧ ((D.int IntKind.i64 t = D.int IntKind.i64 t ∧ D.sl f (List.map iD (b.fst ++ b.snd)) = D.sl f (List.map iD l) ∧ D.int IntKind.i64 (sumV l) = D.int IntKind.i64 (sumV l) ∧ D.int IntKind.i64 (t - (bases t (sumV l) b.fst).sum) = D.int IntKind.i64 t ∧ D.ms (0 : Nat) (0 : Nat) (b.fst ++ b.snd).length (b.fst ++ b.snd).length true = D.ms (0 : Nat) (0 : Nat) (↑(List.map iD l).length : Int).toNat (↑(List.map iD l).length : Int).toNat true ∧ D.sl f (List.map iD (b.fst ++ b.snd)) = D.sl f (List.map iD l) ∧ D.int IntKind.i64 (↑(List.map iD (b.fst ++ b.snd)).length : Int) = D.int IntKind.i64 (↑(List.map iD l).length : Int) ∧ D.int IntKind.i64 (↑b.fst.length : Int) = D.int IntKind.i64 (0 : Int)) ∧ (some (Ob.row St.own (1 : Nat) (List.map iD (bases t (sumV l) b.fst ++ List.replicate b.snd.length (0 : Int)))) = none ∨ some (Ob.row St.own (1 : Nat) (List.map iD (bases t (sumV l) b.fst ++ List.replicate b.snd.length (0 : Int)))) = some (Ob.row St.own (1 : Nat) (List.replicate (↑(List.map iD l).length : Int).toNat (D.int IntKind.i64 (0 : Int)))) ∧ (List.replicate (↑(List.map iD l).length : Int).toNat (D.int IntKind.i64 (0 : Int))).all D.pure = true)) ∧ ∀ (a : List Int), a = b.fst ++ b.snd → ∃ (b : Int × List Int), (l.length = b.snd.length ∧ l.length ≤ (100 : Nat) ∧ (0 : Int) ≤ b.fst ∧ b.fst ≤ (1000000 : Int) ∧ b.fst ≤ npos l ∧ ((0 : Int) < b.fst → ∀ (o : Int), List.Mem o b.snd → (0 : Int) ≤ o ∧ o ≤ (1000000 : Int))) ∧ ((D.sl f (List.map iD l) = D.sl f (List.map iD a) ∧ D.ms (0 : Nat) (0 : Nat) l.length l.length true = D.ms (0 : Nat) (0 : Nat) a.length a.length true ∧ D.int IntKind.i64 b.fst = D.int IntKind.i64 (t - (bases t (sumV l) a).sum)) ∧ (some (Ob.row St.own (1 : Nat) (List.map iD b.snd)) = none ∨ some (Ob.row St.own (1 : Nat) (List.map iD b.snd)) = some (Ob.row St.own (1 : Nat) (List.map iD (bases t (sumV l) a))) ∧ (List.map iD (bases t (sumV l) a)).all D.pure = true)) ∧ ∀ (a : List Int), a = (give b.fst l b.snd).snd → (0 : Nat) + l.length ≤ (List.map iD a).length ∧ (List.take l.length (List.drop (0 : Nat) (List.map iD a))).all D.pure = true ∧ D.sl (true && decide (l.length = l.length)) (List.take l.length (List.drop (0 : Nat) (List.map iD a))) = D.sl true (List.map iD (spreadV t l))) ∧ ∀ (a : Unit), ((List.drop b l).all fun (p : Int) => !decide ((4611686018427387904 : Int) / (↑l.length : Int) < p)) = false → D.sl true [] = D.sl true (List.map iD (spreadV t l))))) := by
  rw [map_dI]
  have e0 : ∀ h : (t < 0 ∨ 1000000 < t ∨ sumV l = 0 ∨ ∃ p ∈ l, 4611686018427387904 / (l.length : Int) < p), D.sl true [] = D.sl true (List.map iD (spreadV t l)) := fun h => by unfold spreadV; rw [if_pos h]; rfl
  refine ⟨⟨rfl, by simp; omega⟩, chks (fun h => e0 (.inl h)) fun h1 => chks (fun h => e0 (.inr (.inl h))) fun h2 => chks (fun h => e0 (.inr (.inr (.inl h)))) fun h3 => ?_⟩
  refine ⟨0, ⟨by omega, by omega⟩, ⟨rfl, rfl, rfl, rfl, rfl, rfl⟩, fun _ hall => ?_, fun _ hall => e0 (.inr (.inr (.inr ?_)))⟩
  · have hno : ∀ p ∈ l, ¬ 4611686018427387904 / (l.length : Int) < p := by
      intro p hp
      rw [List.drop_zero, List.all_eq_true] at hall
      simpa using hall p hp
    have hS := sumV_tot hno
    have tn := tot_nonneg l
    have hpos : 0 < tot l := by omega
    have hmax : sumV l ≤ 4611686018427387904 := by unfold sumV; omega
    obtain ⟨lb1, lb2⟩ := left_bound (t := t) (by omega) (by omega) hpos
    have bb := bases_sum_nonneg (t := t) (by omega) (by omega) hpos l fun p hp => tot_mem hp
    have hsp : spreadV t l = (give (t - (bases t (sumV l) l).sum) l (bases t (sumV l) l)).2 := by
      unfold spreadV
      rw [if_neg]
      rintro (h | h | h | ⟨p, hp, h⟩)
      · exact h1 h
      · exact h2 h
      · exact h3 h
      · exact hno p hp h
    rw [← hS] at lb1 lb2 bb
    have hbl := bases_len t (sumV l) l
    have hb1 : ∀ o ∈ bases t (sumV l) l, 0 ≤ o ∧ o ≤ 1000000 := by
      intro o ho
      obtain ⟨p, hp, rfl⟩ := List.mem_map.1 ho
      obtain ⟨v1, v2, _⟩ := baseV_bound (t := t) (s := sumV l) (p := p) (by omega) (by omega) (by omega) (by rw [hS]; exact tot_mem hp)
      omega
    have gl := give_len (t - (bases t (sumV l) l).sum) l (bases t (sumV l) l) hbl.symm
    have lm : (l.map iD).length = l.length := List.length_map ..
    refine ⟨by omega, by omega, by rw [lm]; omega, by rw [lm]; omega, ([], l), ⟨by simpa using hl, fun p hp => ⟨(hr p hp).1, ?_⟩, by omega, by omega, by omega, hmax⟩, ⟨⟨rfl, rfl, rfl, by simp [bases], by simp, rfl, rfl, rfl⟩, .inr ⟨by simp [bases, iD], ?_⟩⟩, ?_⟩
    · have := tot_mem (show p ∈ l from hp); show p ≤ sumV l; omega
    · rw [List.all_eq_true]; intro d hd; rw [(List.mem_replicate.1 hd).2]; rfl
    intro a ha
    have ha' : l = a := ha.symm
    subst ha'
    refine ⟨(t - (bases t (sumV l) l).sum, bases t (sumV l) l), ⟨hbl.symm, hl, lb1, (show t - (bases t (sumV l) l).sum ≤ 1000000 by omega), lb2, fun _ => hb1⟩, ⟨⟨rfl, rfl, rfl⟩, .inr ⟨rfl, pure_iD _⟩⟩, ?_⟩
    intro a ha
    have ha2 : a = spreadV t l := by rw [hsp]; exact ha
    subst ha2
    have hle : (spreadV t l).length = l.length := by rw [hsp]; exact gl
    refine ⟨by simp [hle], ?_, ?_⟩
    · rw [List.drop_zero, List.take_of_length_le (by simp [hle])]; exact pure_iD _
    · rw [List.drop_zero, List.take_of_length_le (by simp [hle])]; simp
  · rw [List.drop_zero, List.all_eq_false] at hall
    obtain ⟨p, hp, h⟩ := hall
    exact ⟨p, hp, by simpa using h⟩
def sprC : Ctr := ⟨51, sprS, by
  intro vs o ho hp
  unfold sprS at ho
  split at ho
  · rename_i t f ys
    injection ho with ho; subst ho
    obtain ⟨h1, h2, h3, h4⟩ := hp
    obtain ⟨l, rfl⟩ : ∃ l : List Int, ys = l.map iD := ⟨_, h2⟩
    simp only [map_dI, List.length_map] at h3 h4 ⊢
    refine dataFunL (C := sprCfg f t l) (ctrs_ok [mdC, sumC] rfl rfl) rfl Try.func51 (by kernel_rfl) (l := [lp Try.f51 5, lp Try.f51 13, lp Try.f51 19]) (by kernel_rfl) ?_ (by kernel_rfl) (by kernel_rfl) (by kernel_rfl) (sprN f t l h4 h3)
    intro x hx
    simp only [List.mem_cons, List.not_mem_nil, or_false] at hx
    rcases hx with rfl | rfl | rfl
    · exact (sp5 f t (sumV l) l).fits 5 [] (by kernel_rfl) rfl (sp5R f t (sumV l) l)
    · exact (sp13 f t (sumV l)).fits 13 [(0, true)] (by kernel_rfl) rfl (sp13R f t (sumV l))
    · exact (sp19 f l).fits 19 [(0, true)] (by kernel_rfl) rfl (sp19R f l)
  · cases ho⟩
def sprC' : Ctr := ⟨53, sprS, by
  intro vs o ho hp
  unfold sprS at ho
  split at ho
  · rename_i t f ys
    injection ho with ho; subst ho
    obtain ⟨h1, h2, h3, h4⟩ := hp
    obtain ⟨l, rfl⟩ : ∃ l : List Int, ys = l.map iD := ⟨_, h2⟩
    simp only [map_dI, List.length_map] at h3 h4 ⊢
    refine dataFunL (C := sprCfg' f t l) (ctrs_ok [mdC', sumC'] rfl rfl) rfl Try.func53 (by kernel_rfl) (l := [lp Try.f53 5, lp Try.f53 13, lp Try.f53 18]) (by kernel_rfl) ?_ (by kernel_rfl) (by kernel_rfl) (by kernel_rfl) (sprN' f t l h4 h3)
    intro x hx
    simp only [List.mem_cons, List.not_mem_nil, or_false] at hx
    rcases hx with rfl | rfl | rfl
    · exact (sp5' f t (sumV l) l).fits 5 [] (by kernel_rfl) rfl (sp5'R f t (sumV l) l)
    · exact (sp13' f t (sumV l)).fits 13 [(0, true)] (by kernel_rfl) rfl (sp13'R f t (sumV l))
    · exact (sp18 f l).fits 18 [(0, true)] (by kernel_rfl) rfl (sp18R f l)
  · cases ho⟩
end Go.Proofs.Ytgibpomhiilehaa.Dv
