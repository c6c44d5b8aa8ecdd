/- The pages' shares of zones (triageref10.ZoneShares). -/
import Derived.Test.YtgibpomhiilehaaNZ
import Derived.Test.YtgibpomhiilehaaNI
import Derived.Test.YtgibpomhiilehaaN6
set_option linter.unusedVariables false
set_option linter.unusedSimpArgs false
namespace Go.Proofs.Ytgibpomhiilehaa.Dv
open Go Go.Proofs
/-! ### which is one's own -/
def atB (own : ByteArray) (N a : List ByteArray) : Int := if hasB own a then (posB own N : Int) else -1
theorem posB_mid {own : ByteArray} {a r : List ByteArray} (h : Srt (a ++ own :: r)) : posB own (a ++ own :: r) = a.length := by
  have h' := List.pairwise_append.1 h
  have h2 := List.pairwise_cons.1 h'.2.1
  unfold posB
  rw [List.filter_append, List.filter_eq_self.2 fun x hx => h'.2.2 x hx own (List.mem_cons_self ..), List.filter_cons, lessB_irrefl]
  rw [List.filter_eq_nil_iff.2 fun x hx => by rw [lessB_asymm (h2.1 x hx)]; simp]
  simp
def z1 (own : ByteArray) (f : Bool) (l : List Stat) (g : Bool) (N : List ByteArray) : WLoop :=
  { St := List ByteArray × List ByteArray
    O := Unit
    T := fun s => [(0, .str own), (1, .sl f (l.map statD)), (5, .sl g (N.map strD)), (6, .int .i64 (atB own N s.1)), (23, .sl g (N.map strD)), (24, .int .i64 (N.map strD).length), (25, .int .i64 s.1.length)]
    ok := fun s => s.1 ++ s.2 = N ∧ N.length ≤ 1000 ∧ Srt N
    μ := fun s => s.2.length
    m := fun _ => ()
    outs := [{ α := Unit, is := fun _ _ => True, ex := .exit 0, T := fun _ => [(0, .str own), (1, .sl f (l.map statD)), (5, .sl g (N.map strD)), (6, .int .i64 (atB own N N))] }] }
theorem z1R (own : ByteArray) (f : Bool) (l : List Stat) (g : Bool) (N : List ByteArray) (s : (z1 own f l g N).St) (hs : (z1 own f l g N).ok s) : Tri Try.prog 0 155 (lp Try.f24 4) (tb ((z1 own f l g N).T s)) ((z1 own f l g N).S s) ((z1 own f l g N).q 0 s) := by
  obtain ⟨a, r⟩ := s
  obtain ⟨h1, h2, h3⟩ := hs
  simp only at h1
  cases r with
  | nil =>
    rw [List.append_nil] at h1
    subst h1
    refine round0 (C := nCfg 0 [] [] [(26, .f)]) (ctrs_ok ([]) rfl rfl) (by kernel_rfl) (by kernel_rfl) (q := decide ((↑a.length : Int) < (↑(List.map strD a).length : Int)) = false ∧ ∃ (a_1 : Unit), True ∧ D.str own = D.str own ∧ D.sl f (List.map statD l) = D.sl f (List.map statD l) ∧ D.sl g (List.map strD a) = D.sl g (List.map strD a) ∧ D.int IntKind.i64 (atB own a a) = D.int IntKind.i64 (atB own a a)) (by kernel_rfl) ?_
    refine ⟨decide_eq_false (by rw [List.length_map]; omega), (), trivial, ?_⟩
    repeat' apply And.intro
    all_goals rfl
  | cons x r =>
    have hg : (List.map strD N)[((a.length : Int)).toNat]? = some (strD x) := by rw [← h1]; exact get_midI strD a x r
    have hll : ((a.length : Int) < ((List.map strD N).length : Int)) := by rw [← h1]; simp; omega
    have hix : D.int .i64 ((a ++ [x]).length : Int) = D.int .i64 ((a.length : Int) + 1) := by simp
    have hin : inK .i64 ((a.length : Int) + 1) := by have : a.length + (r.length + 1) = N.length := by rw [← h1]; simp
                                                     simp only [inK]; omega
    refine round0 (C := nCfg 0 [] [] [(26, .t)]) (ctrs_ok ([]) rfl rfl) (by kernel_rfl) (by kernel_rfl) (q := decide ((↑a.length : Int) < (↑(List.map strD N).length : Int)) = true ∧ ∃ (y : ByteArray), (0 : Int) ≤ (↑a.length : Int) ∧ (List.map strD N)[(↑a.length : Int).toNat]? = some (D.str y) ∧ (decide (y = own) = true → inK IntKind.i64 ((↑a.length : Int) + (1 : Int)) ∧ ∃ (s' : List ByteArray × List ByteArray), (s'.fst ++ s'.snd = N ∧ N.length ≤ (1000 : Nat) ∧ List.Pairwise (fun (a b : ByteArray) => lessB a b = true) N) ∧ s'.snd.length.succ ≤ (x :: r).length ∧ () = () ∧ D.str own = D.str own ∧ D.sl f (List.map statD l) = D.sl f (List.map statD l) ∧ D.sl g (List.map strD N) = D.sl g (List.map strD N) ∧ D.int IntKind.i64 (atB own N s'.fst) = D.int IntKind.i64 (↑a.length : Int) ∧ D.sl g (List.map strD N) = D.sl g (List.map strD N) ∧ D.int IntKind.i64 (↑(List.map strD N).length : Int) = D.int IntKind.i64 (↑(List.map strD N).length : Int) ∧ D.int IntKind.i64 (↑s'.fst.length : Int) = D.int IntKind.i64 ((↑a.length : Int) + (1 : Int))) ∧ (decide (y = own) = false → inK IntKind.i64 ((↑a.length : Int) + (1 : Int)) ∧ ∃ (s' : List ByteArray × List ByteArray), (s'.fst ++ s'.snd = N ∧ N.length ≤ (1000 : Nat) ∧ List.Pairwise (fun (a b : ByteArray) => lessB a b = true) N) ∧ s'.snd.length.succ ≤ (x :: r).length ∧ () = () ∧ D.str own = D.str own ∧ D.sl f (List.map statD l) = D.sl f (List.map statD l) ∧ D.sl g (List.map strD N) = D.sl g (List.map strD N) ∧ D.int IntKind.i64 (atB own N s'.fst) = D.int IntKind.i64 (atB own N a) ∧ D.sl g (List.map strD N) = D.sl g (List.map strD N) ∧ D.int IntKind.i64 (↑(List.map strD N).length : Int) = D.int IntKind.i64 (↑(List.map strD N).length : Int) ∧ D.int IntKind.i64 (↑s'.fst.length : Int) = D.int IntKind.i64 ((↑a.length : Int) + (1 : Int)))) (by kernel_rfl) ?_
    have hok : (a ++ [x]) ++ r = N := by rw [← h1]; simp
    refine ⟨decide_eq_true hll, x, by omega, hg, fun hx => ⟨hin, (a ++ [x], r), ⟨hok, h2, h3⟩, Nat.le_refl _, rfl, ?_⟩, fun hx => ⟨hin, (a ++ [x], r), ⟨hok, h2, h3⟩, Nat.le_refl _, rfl, ?_⟩⟩
    · have hx : x = own := of_decide_eq_true hx
      subst hx
      have e : atB x N (a ++ [x]) = a.length := by
        have hp : posB x N = a.length := by rw [← h1] at h3 ⊢; exact posB_mid h3
        unfold atB
        rw [hp, hasB_iff.2 (by simp), if_pos rfl]
      simp only [e]
      repeat' apply And.intro
      all_goals first | rfl | trivial | exact hix
    · have hx : x ≠ own := of_decide_eq_false hx
      have e : atB own N (a ++ [x]) = atB own N a := by
        have : hasB own (a ++ [x]) = hasB own a := by
          cases h : hasB own a with
          | true => exact hasB_iff.2 (List.mem_append_left _ (hasB_iff.1 h))
          | false =>
            refine hasB_not.2 fun hm => ?_
            rcases List.mem_append.1 hm with hm | hm
            · exact hasB_not.1 h hm
            · exact hx (List.mem_singleton.1 hm).symm
        unfold atB
        rw [this]
      simp only [e]
      repeat' apply And.intro
      all_goals first | rfl | trivial | exact hix
/-! ### what is too much, and how many -/
def fuI (L : Int) (many : Nat → Int) (i : Nat) : Int := 10000 * many i / L
def foI (L ev : Int) (h : Nat) (many : Nat → Int) (i : Nat) : Int := if i = h then 0 else max 0 (ovI L ev many i)
def fmI (h : Nat) (many : Nat → Int) (i : Nat) : Int := if i = h then 0 else many i
def z2 (f : Bool) (l : List Stat) (g : Bool) (N : List ByteArray) (h : Nat) (ev : Int) : WLoop :=
  { St := List ByteArray × List ByteArray × List Int × List Int × List Int
    O := Unit
    T := fun s => [(1, .sl f (l.map statD)), (5, .sl g (N.map strD)), (6, .int .i64 h), (9, .int .i64 ev), (10, outD 0 (s.2.2.1.map iD)), (11, outD 1 (s.2.2.2.1.map iD)), (12, outD 2 (s.2.2.2.2.map iD)), (49, .sl g (N.map strD)), (50, .int .i64 (N.map strD).length), (51, .int .i64 s.1.length)]
    S := fun s => [outO 1 (s.2.2.1.map iD), outO 1 (s.2.2.2.1.map iD), outO 1 (s.2.2.2.2.map iD)]
    ok := fun s => s.1 ++ s.2.1 = N ∧ s.2.2.1 = tab s.1.length (fuI l.length (manyI N l)) ∧ s.2.2.2.1 = tab s.1.length (foI l.length ev h (manyI N l)) ∧ s.2.2.2.2 = tab s.1.length (fmI h (manyI N l)) ∧ N.length ≤ 1000 ∧ l.length ≤ 1000 ∧ 0 < l.length ∧ 0 ≤ ev ∧ ev ≤ 10000 ∧ (∀ t ∈ l, t.small) ∧ N ≠ []
    μ := fun s => s.2.1.length
    m := fun _ => ()
    src := [(4, true), (6, true), (8, true)]
    outs := [{ α := (Int × List Int) × (Int × List Int) × (Int × List Int), is := fun _ a => a.1.1 :: a.1.2 = tab N.length (fuI l.length (manyI N l)) ∧ a.2.1.1 :: a.2.1.2 = tab N.length (foI l.length ev h (manyI N l)) ∧ a.2.2.1 :: a.2.2.2 = tab N.length (fmI h (manyI N l)), ex := .exit 2, src := [(0, true), (1, true), (2, true)], T := fun a => [(5, .sl g (N.map strD)), (6, .int .i64 h), (9, .int .i64 ev), (10, outD 0 ((a.1.1 :: a.1.2).map iD)), (11, outD 1 ((a.2.1.1 :: a.2.1.2).map iD)), (12, outD 2 ((a.2.2.1 :: a.2.2.2).map iD))], S := fun a => [outO 1 ((a.1.1 :: a.1.2).map iD), outO 1 ((a.2.1.1 :: a.2.1.2).map iD), outO 1 ((a.2.2.1 :: a.2.2.2).map iD)] }] }
theorem gaiz_kept (q : ByteArray) (l : List Stat) : gaiz q l = (keptZ q l).map Stat.cp := by
  unfold gaiz keptZ
  refine congrArg _ (List.filter_congr fun t _ => ?_)
  unfold piz
  by_cases h : t.zone = q <;> simp [h]
theorem oD (id : Nat) (us : List Int) (k : Int) : outD id (List.map iD (us ++ [k])) = .ms id 0 ((List.map iD us).length + 1) ((List.map iD us).length + 1) false := outD_of (by rw [List.map_append, List.length_append]; rfl)
theorem oR (us : List Int) (k : Int) : outO 1 (List.map iD (us ++ [k])) = some (.row .own 1 (List.take (List.map iD us).length (List.map iD us) ++ [iD k])) ∧ (List.take (List.map iD us).length (List.map iD us) ++ [iD k]).all D.pure = true := by
  have e : List.take (List.map iD us).length (List.map iD us) ++ [iD k] = List.map iD (us ++ [k]) := by rw [List.take_length, List.map_append]; rfl
  rw [e]
  exact ⟨outO_of (by simp), pure_iD _⟩
noncomputable def z2C : List Ctr := [gaizC]
theorem z2R (f : Bool) (l : List Stat) (g : Bool) (N : List ByteArray) (h : Nat) (ev : Int) (s : (z2 f l g N h ev).St) (hs : (z2 f l g N h ev).ok s) : Tri Try.prog 0 155 (lp Try.f24 14) (tb ((z2 f l g N h ev).T s)) ((z2 f l g N h ev).S s) ((z2 f l g N h ev).q 0 s) := by
  obtain ⟨a, r, u, o, m⟩ := s
  obtain ⟨h1, h2, h3, h4, h5, h6, h7, h8, h9, h10, hN⟩ := hs
  simp only at h1 h2 h3 h4
  cases r with
  | nil =>
    rw [List.append_nil] at h1
    subst h1
    obtain ⟨n, hn⟩ : ∃ n, a.length = n + 1 := ⟨a.length - 1, by have := List.length_pos_iff.2 hN; omega⟩
    have cons : ∀ {x : List Int} {F : Nat → Int}, x = tab a.length F → ∃ y ys, x = y :: ys := fun {x F} e => by
      cases x with
      | nil => have := congrArg List.length e; rw [tab_len] at this; simp at this; omega
      | cons y ys => exact ⟨y, ys, rfl⟩
    obtain ⟨u0, us, hu⟩ := cons h2
    obtain ⟨o0, os, ho⟩ := cons h3
    obtain ⟨m0, ms, hm⟩ := cons h4
    rw [hu] at h2
    rw [ho] at h3
    rw [hm] at h4
    simp only [hu, ho, hm]
    refine round0 (C := nCfg 0 z2C [] [(52, .f)]) (ctrs_ok (z2C) rfl rfl) (by kernel_rfl) (by kernel_rfl) (q := decide ((↑a.length : Int) < (↑(List.map strD a).length : Int)) = false ∧ ∃ (a_1 : (Int × List Int) × (Int × List Int) × Int × List Int), (a_1.fst.fst :: a_1.fst.snd = tab a.length (fuI (↑l.length : Int) (manyI a l)) ∧ a_1.snd.fst.fst :: a_1.snd.fst.snd = tab a.length (foI (↑l.length : Int) ev h (manyI a l)) ∧ a_1.snd.snd.fst :: a_1.snd.snd.snd = tab a.length (fmI h (manyI a l))) ∧ (D.sl g (List.map strD a) = D.sl g (List.map strD a) ∧ D.int IntKind.i64 (↑h : Int) = D.int IntKind.i64 (↑h : Int) ∧ D.int IntKind.i64 ev = D.int IntKind.i64 ev ∧ D.ms (0 : Nat) (0 : Nat) (List.map iD (a_1.fst.fst :: a_1.fst.snd)).length (List.map iD (a_1.fst.fst :: a_1.fst.snd)).length false = D.ms (0 : Nat) (0 : Nat) (List.map iD (u0 :: us)).length (List.map iD (u0 :: us)).length false ∧ D.ms (1 : Nat) (0 : Nat) (List.map iD (a_1.snd.fst.fst :: a_1.snd.fst.snd)).length (List.map iD (a_1.snd.fst.fst :: a_1.snd.fst.snd)).length false = D.ms (1 : Nat) (0 : Nat) (List.map iD (o0 :: os)).length (List.map iD (o0 :: os)).length false ∧ D.ms (2 : Nat) (0 : Nat) (List.map iD (a_1.snd.snd.fst :: a_1.snd.snd.snd)).length (List.map iD (a_1.snd.snd.fst :: a_1.snd.snd.snd)).length false = D.ms (2 : Nat) (0 : Nat) (List.map iD (m0 :: ms)).length (List.map iD (m0 :: ms)).length false) ∧ (some (Ob.row St.own (1 : Nat) (List.map iD (a_1.fst.fst :: a_1.fst.snd))) = none ∨ some (Ob.row St.own (1 : Nat) (List.map iD (a_1.fst.fst :: a_1.fst.snd))) = some (Ob.row St.own (1 : Nat) (List.map iD (u0 :: us))) ∧ (List.map iD (u0 :: us)).all D.pure = true) ∧ (some (Ob.row St.own (1 : Nat) (List.map iD (a_1.snd.fst.fst :: a_1.snd.fst.snd))) = none ∨ some (Ob.row St.own (1 : Nat) (List.map iD (a_1.snd.fst.fst :: a_1.snd.fst.snd))) = some (Ob.row St.own (1 : Nat) (List.map iD (o0 :: os))) ∧ (List.map iD (o0 :: os)).all D.pure = true) ∧ (some (Ob.row St.own (1 : Nat) (List.map iD (a_1.snd.snd.fst :: a_1.snd.snd.snd))) = none ∨ some (Ob.row St.own (1 : Nat) (List.map iD (a_1.snd.snd.fst :: a_1.snd.snd.snd))) = some (Ob.row St.own (1 : Nat) (List.map iD (m0 :: ms))) ∧ (List.map iD (m0 :: ms)).all D.pure = true)) (by kernel_rfl) ?_
    refine ⟨decide_eq_false (by rw [List.length_map]; omega), ((u0, us), (o0, os), (m0, ms)), ⟨h2, h3, h4⟩, ?_, .inr ⟨rfl, pure_iD _⟩, .inr ⟨rfl, pure_iD _⟩, .inr ⟨rfl, pure_iD _⟩⟩
    repeat' apply And.intro
    all_goals rfl
  | cons x r =>
    have hg : (List.map strD N)[((a.length : Int)).toNat]? = some (strD x) := by rw [← h1]; exact get_midI strD a x r
    have hll : ((a.length : Int) < ((List.map strD N).length : Int)) := by rw [← h1]; simp; omega
    have hix : D.int .i64 ((a ++ [x]).length : Int) = D.int .i64 ((a.length : Int) + 1) := by simp
    have hal : a.length + (r.length + 1) = N.length := by rw [← h1]; simp
    have hin : inK .i64 ((a.length : Int) + 1) := by simp only [inK]; omega
    have hx : nmAt N a.length = x := by unfold nmAt; rw [← h1]; simp
    have hK : ((List.map statD (gaiz x l)).length : Int) = manyI N l a.length := by
      unfold manyI
      rw [hx, List.length_map, gaiz_kept, List.length_map]
    have hLs : (List.map statD l).length = l.length := List.length_map ..
    have hok : (a ++ [x]) ++ r = N := by rw [← h1]; simp
    have hla : (a ++ [x]).length = a.length + 1 := by simp
    obtain ⟨m1, m2⟩ := many_bound N h6 a.length
    obtain ⟨o1, o2⟩ := ov_bound (L := (l.length : Int)) (ev := ev) (k := a.length) (by omega) (many_bound N h6 _) ⟨h8, h9⟩
    unfold ovI at o1 o2
    cases a with
    | nil =>
      have hu : u = [] := h2
      have ho : o = [] := h3
      have hm : m = [] := h4
      subst hu ho hm
      refine round0 (C := nCfg 0 z2C [] [(52, .t)]) (ctrs_ok (z2C) rfl rfl) (by kernel_rfl) (by kernel_rfl) (q := decide ((0 : Int) < (↑(List.map strD N).length : Int)) = true ∧ ∃ (y : ByteArray), (0 : Int) ≤ (0 : Int) ∧ (List.map strD N)[(0 : Nat)]? = some (D.str y) ∧ (∃ (l_1 : List Stat), List.map statD l = List.map statD l_1 ∧ l_1.length ≤ (1000 : Nat) ∧ ∀ (t : Stat), List.Mem t l_1 → t.small) ∧ inK IntKind.i64 ((10000 : Int) * (↑(List.map statD (gaiz y (List.map dStat (List.map statD l)))).length : Int)) ∧ (0 : Int) ≤ (10000 : Int) * (↑(List.map statD (gaiz y (List.map dStat (List.map statD l)))).length : Int) ∧ (0 : Int) < (↑(List.map statD l).length : Int) ∧ inK IntKind.i64 ((10000 : Int) * (↑(List.map statD (gaiz y (List.map dStat (List.map statD l)))).length : Int)) ∧ (decide ((0 : Int) = (↑h : Int)) = true → inK IntKind.i64 ((0 : Int) + (1 : Int)) ∧ ∃ (s' : List ByteArray × List ByteArray × List Int × List Int × List Int), (s'.fst ++ s'.snd.fst = N ∧ s'.snd.snd.fst = tab s'.fst.length (fuI (↑l.length : Int) (manyI N l)) ∧ s'.snd.snd.snd.fst = tab s'.fst.length (foI (↑l.length : Int) ev h (manyI N l)) ∧ s'.snd.snd.snd.snd = tab s'.fst.length (fmI h (manyI N l)) ∧ N.length ≤ (1000 : Nat) ∧ l.length ≤ (1000 : Nat) ∧ (1 : Nat) ≤ l.length ∧ (0 : Int) ≤ ev ∧ ev ≤ (10000 : Int) ∧ (∀ (t : Stat), List.Mem t l → t.small) ∧ (N = [] → False)) ∧ s'.snd.fst.length.succ ≤ (x :: r).length ∧ () = () ∧ (D.sl f (List.map statD l) = D.sl f (List.map statD l) ∧ D.sl g (List.map strD N) = D.sl g (List.map strD N) ∧ D.int IntKind.i64 (↑h : Int) = D.int IntKind.i64 (↑h : Int) ∧ D.int IntKind.i64 ev = D.int IntKind.i64 ev ∧ outD (0 : Nat) (List.map iD s'.snd.snd.fst) = D.ms (0 : Nat) (0 : Nat) (1 : Nat) (1 : Nat) false ∧ outD (1 : Nat) (List.map iD s'.snd.snd.snd.fst) = D.ms (1 : Nat) (0 : Nat) (1 : Nat) (1 : Nat) false ∧ outD (2 : Nat) (List.map iD s'.snd.snd.snd.snd) = D.ms (2 : Nat) (0 : Nat) (1 : Nat) (1 : Nat) false ∧ D.sl g (List.map strD N) = D.sl g (List.map strD N) ∧ D.int IntKind.i64 (↑(List.map strD N).length : Int) = D.int IntKind.i64 (↑(List.map strD N).length : Int) ∧ D.int IntKind.i64 (↑s'.fst.length : Int) = D.int IntKind.i64 ((0 : Int) + (1 : Int))) ∧ (outO (1 : Nat) (List.map iD s'.snd.snd.fst) = none ∨ outO (1 : Nat) (List.map iD s'.snd.snd.fst) = some (Ob.row St.own (1 : Nat) [D.int IntKind.i64 ((10000 : Int) * (↑(List.map statD (gaiz y (List.map dStat (List.map statD l)))).length : Int) / (↑(List.map statD l).length : Int))]) ∧ true = true) ∧ (outO (1 : Nat) (List.map iD s'.snd.snd.snd.fst) = none ∨ outO (1 : Nat) (List.map iD s'.snd.snd.snd.fst) = some (Ob.row St.own (1 : Nat) [D.int IntKind.i64 (0 : Int)]) ∧ true = true) ∧ (outO (1 : Nat) (List.map iD s'.snd.snd.snd.snd) = none ∨ outO (1 : Nat) (List.map iD s'.snd.snd.snd.snd) = some (Ob.row St.own (1 : Nat) [D.int IntKind.i64 (0 : Int)]) ∧ true = true)) ∧ (decide ((0 : Int) = (↑h : Int)) = false → inK IntKind.i64 ((10000 : Int) * (↑(List.map statD (gaiz y (List.map dStat (List.map statD l)))).length : Int)) ∧ (0 : Int) ≤ (10000 : Int) * (↑(List.map statD (gaiz y (List.map dStat (List.map statD l)))).length : Int) ∧ (0 : Int) < (↑(List.map statD l).length : Int) ∧ inK IntKind.i64 ((10000 : Int) * (↑(List.map statD (gaiz y (List.map dStat (List.map statD l)))).length : Int)) ∧ inK IntKind.i64 ((10000 : Int) * (↑(List.map statD (gaiz y (List.map dStat (List.map statD l)))).length : Int) / (↑(List.map statD l).length : Int) - ev) ∧ inK IntKind.i64 ((0 : Int) + (1 : Int)) ∧ ∃ (s' : List ByteArray × List ByteArray × List Int × List Int × List Int), (s'.fst ++ s'.snd.fst = N ∧ s'.snd.snd.fst = tab s'.fst.length (fuI (↑l.length : Int) (manyI N l)) ∧ s'.snd.snd.snd.fst = tab s'.fst.length (foI (↑l.length : Int) ev h (manyI N l)) ∧ s'.snd.snd.snd.snd = tab s'.fst.length (fmI h (manyI N l)) ∧ N.length ≤ (1000 : Nat) ∧ l.length ≤ (1000 : Nat) ∧ (1 : Nat) ≤ l.length ∧ (0 : Int) ≤ ev ∧ ev ≤ (10000 : Int) ∧ (∀ (t : Stat), List.Mem t l → t.small) ∧ (N = [] → False)) ∧ s'.snd.fst.length.succ ≤ (x :: r).length ∧ () = () ∧ (D.sl f (List.map statD l) = D.sl f (List.map statD l) ∧ D.sl g (List.map strD N) = D.sl g (List.map strD N) ∧ D.int IntKind.i64 (↑h : Int) = D.int IntKind.i64 (↑h : Int) ∧ D.int IntKind.i64 ev = D.int IntKind.i64 ev ∧ outD (0 : Nat) (List.map iD s'.snd.snd.fst) = D.ms (0 : Nat) (0 : Nat) (1 : Nat) (1 : Nat) false ∧ outD (1 : Nat) (List.map iD s'.snd.snd.snd.fst) = D.ms (1 : Nat) (0 : Nat) (1 : Nat) (1 : Nat) false ∧ outD (2 : Nat) (List.map iD s'.snd.snd.snd.snd) = D.ms (2 : Nat) (0 : Nat) (1 : Nat) (1 : Nat) false ∧ D.sl g (List.map strD N) = D.sl g (List.map strD N) ∧ D.int IntKind.i64 (↑(List.map strD N).length : Int) = D.int IntKind.i64 (↑(List.map strD N).length : Int) ∧ D.int IntKind.i64 (↑s'.fst.length : Int) = D.int IntKind.i64 ((0 : Int) + (1 : Int))) ∧ (outO (1 : Nat) (List.map iD s'.snd.snd.fst) = none ∨ outO (1 : Nat) (List.map iD s'.snd.snd.fst) = some (Ob.row St.own (1 : Nat) [D.int IntKind.i64 ((10000 : Int) * (↑(List.map statD (gaiz y (List.map dStat (List.map statD l)))).length : Int) / (↑(List.map statD l).length : Int))]) ∧ true = true) ∧ (outO (1 : Nat) (List.map iD s'.snd.snd.snd.fst) = none ∨ outO (1 : Nat) (List.map iD s'.snd.snd.snd.fst) = some (Ob.row St.own (1 : Nat) [D.int IntKind.i64 (max (0 : Int) ((10000 : Int) * (↑(List.map statD (gaiz y (List.map dStat (List.map statD l)))).length : Int) / (↑(List.map statD l).length : Int) - ev))]) ∧ true = true) ∧ (outO (1 : Nat) (List.map iD s'.snd.snd.snd.snd) = none ∨ outO (1 : Nat) (List.map iD s'.snd.snd.snd.snd) = some (Ob.row St.own (1 : Nat) [D.int IntKind.i64 (↑(List.map statD (gaiz y (List.map dStat (List.map statD l)))).length : Int)]) ∧ true = true))) (by kernel_rfl) ?_
      rw [map_dStat]
      refine ⟨decide_eq_true hll, x, by omega, hg, ⟨l, rfl, h6, h10⟩, ?_⟩
      rw [hK, hLs]
      refine ⟨ink (by omega), by omega, by omega, ink (by omega), fun he => ?_, fun he => ?_⟩
      · have he : (([] : List ByteArray)).length = h := by have := of_decide_eq_true he; show 0 = h; omega
        refine ⟨hin, (([] : List ByteArray) ++ [x], r, ([] : List Int) ++ [fuI l.length (manyI N l) (([] : List ByteArray)).length], ([] : List Int) ++ [0], ([] : List Int) ++ [0]), ⟨hok, by simp only [hla]; rw [tab_succ, ← h2], by simp only [hla]; rw [tab_succ, ← h3]; exact congrArg (fun v => ([] : List Int) ++ [v]) (by unfold foI; rw [if_pos he]), by simp only [hla]; rw [tab_succ, ← h4]; exact congrArg (fun v => ([] : List Int) ++ [v]) (by unfold fmI; rw [if_pos he]), h5, h6, h7, h8, h9, h10, hN⟩, Nat.le_refl _, rfl, ?_, .inr (oR ([] : List Int) _), .inr (oR ([] : List Int) _), .inr (oR ([] : List Int) _)⟩
        repeat' apply And.intro
        all_goals first
          | exact rfl
          | exact hix
          | exact oD _ ([] : List Int) _
          | exact oD _ ([] : List Int) _
          | exact oD _ ([] : List Int) _
      · have he : (([] : List ByteArray)).length ≠ h := by have := of_decide_eq_false he; show ¬ 0 = h; omega
        refine ⟨ink (by omega), by omega, by omega, ink (by omega), ink (by omega), hin, (([] : List ByteArray) ++ [x], r, ([] : List Int) ++ [fuI l.length (manyI N l) (([] : List ByteArray)).length], ([] : List Int) ++ [max 0 (ovI l.length ev (manyI N l) (([] : List ByteArray)).length)], ([] : List Int) ++ [manyI N l (([] : List ByteArray)).length]), ⟨hok, by simp only [hla]; rw [tab_succ, ← h2], by simp only [hla]; rw [tab_succ, ← h3]; exact congrArg (fun v => ([] : List Int) ++ [v]) (by unfold foI; rw [if_neg he]), by simp only [hla]; rw [tab_succ, ← h4]; exact congrArg (fun v => ([] : List Int) ++ [v]) (by unfold fmI; rw [if_neg he]), h5, h6, h7, h8, h9, h10, hN⟩, Nat.le_refl _, rfl, ?_, .inr (oR ([] : List Int) _), .inr (oR ([] : List Int) _), .inr (oR ([] : List Int) _)⟩
        repeat' apply And.intro
        all_goals first
          | exact rfl
          | exact hix
          | exact oD _ ([] : List Int) _
          | exact oD _ ([] : List Int) _
          | exact oD _ ([] : List Int) _
    | cons y a =>
      generalize hyl : y :: a = b at *
      have hbn : b ≠ [] := by rw [← hyl]; simp
      clear hyl
      obtain ⟨n, hn⟩ : ∃ n, b.length = n + 1 := ⟨b.length - 1, by have := List.length_pos_iff.2 hbn; omega⟩
      have cons : ∀ {x : List Int} {F : Nat → Int}, x = tab b.length F → ∃ y ys, x = y :: ys := fun {x F} e => by
        cases x with
        | nil => have := congrArg List.length e; rw [tab_len] at this; simp at this; omega
        | cons y ys => exact ⟨y, ys, rfl⟩
      obtain ⟨u0, us, hu⟩ := cons h2
      obtain ⟨o0, os, ho⟩ := cons h3
      obtain ⟨m0, ms, hm⟩ := cons h4
      rw [hu] at h2
      rw [ho] at h3
      rw [hm] at h4
      simp only [hu, ho, hm]
      refine round0 (C := nCfg 0 z2C [] [(52, .t)]) (ctrs_ok (z2C) rfl rfl) (by kernel_rfl) (by kernel_rfl) (q := decide ((↑b.length : Int) < (↑(List.map strD N).length : Int)) = true ∧ ∃ (y : ByteArray), (0 : Int) ≤ (↑b.length : Int) ∧ (List.map strD N)[(↑b.length : Int).toNat]? = some (D.str y) ∧ (∃ (l_1 : List Stat), List.map statD l = List.map statD l_1 ∧ l_1.length ≤ (1000 : Nat) ∧ ∀ (t : Stat), List.Mem t l_1 → t.small) ∧ inK IntKind.i64 ((10000 : Int) * (↑(List.map statD (gaiz y (List.map dStat (List.map statD l)))).length : Int)) ∧ (0 : Int) ≤ (10000 : Int) * (↑(List.map statD (gaiz y (List.map dStat (List.map statD l)))).length : Int) ∧ (0 : Int) < (↑(List.map statD l).length : Int) ∧ inK IntKind.i64 ((10000 : Int) * (↑(List.map statD (gaiz y (List.map dStat (List.map statD l)))).length : Int)) ∧ (0 : Nat) + (List.map iD (u0 :: us)).length ≤ (List.map iD (u0 :: us)).length ∧ (List.map iD (u0 :: us)).length ≤ (List.map iD (u0 :: us)).length ∧ ((List.map iD (u0 :: us)).length + (1 : Nat)) * (8 : Nat) ≤ (140737488355328 : Nat) ∧ (List.map iD (u0 :: us)).length.succ ≤ (List.map iD (u0 :: us)).length + (1 : Nat) ∧ (0 : Nat) = (0 : Nat) ∧ (decide ((↑b.length : Int) = (↑h : Int)) = true → (0 : Nat) + (List.map iD (o0 :: os)).length ≤ (List.map iD (o0 :: os)).length ∧ (List.map iD (o0 :: os)).length ≤ (List.map iD (o0 :: os)).length ∧ ((List.map iD (o0 :: os)).length + (1 : Nat)) * (8 : Nat) ≤ (140737488355328 : Nat) ∧ (List.map iD (o0 :: os)).length.succ ≤ (List.map iD (o0 :: os)).length + (1 : Nat) ∧ (0 : Nat) = (0 : Nat) ∧ (0 : Nat) + (List.map iD (m0 :: ms)).length ≤ (List.map iD (m0 :: ms)).length ∧ (List.map iD (m0 :: ms)).length ≤ (List.map iD (m0 :: ms)).length ∧ ((List.map iD (m0 :: ms)).length + (1 : Nat)) * (8 : Nat) ≤ (140737488355328 : Nat) ∧ (List.map iD (m0 :: ms)).length.succ ≤ (List.map iD (m0 :: ms)).length + (1 : Nat) ∧ (0 : Nat) = (0 : Nat) ∧ inK IntKind.i64 ((↑b.length : Int) + (1 : Int)) ∧ ∃ (s' : List ByteArray × List ByteArray × List Int × List Int × List Int), (s'.fst ++ s'.snd.fst = N ∧ s'.snd.snd.fst = tab s'.fst.length (fuI (↑l.length : Int) (manyI N l)) ∧ s'.snd.snd.snd.fst = tab s'.fst.length (foI (↑l.length : Int) ev h (manyI N l)) ∧ s'.snd.snd.snd.snd = tab s'.fst.length (fmI h (manyI N l)) ∧ N.length ≤ (1000 : Nat) ∧ l.length ≤ (1000 : Nat) ∧ (1 : Nat) ≤ l.length ∧ (0 : Int) ≤ ev ∧ ev ≤ (10000 : Int) ∧ (∀ (t : Stat), List.Mem t l → t.small) ∧ (N = [] → False)) ∧ s'.snd.fst.length.succ ≤ (x :: r).length ∧ () = () ∧ (D.sl f (List.map statD l) = D.sl f (List.map statD l) ∧ D.sl g (List.map strD N) = D.sl g (List.map strD N) ∧ D.int IntKind.i64 (↑h : Int) = D.int IntKind.i64 (↑h : Int) ∧ D.int IntKind.i64 ev = D.int IntKind.i64 ev ∧ outD (0 : Nat) (List.map iD s'.snd.snd.fst) = D.ms (0 : Nat) (0 : Nat) ((List.map iD (u0 :: us)).length + (1 : Nat)) ((List.map iD (u0 :: us)).length + (1 : Nat)) false ∧ outD (1 : Nat) (List.map iD s'.snd.snd.snd.fst) = D.ms (1 : Nat) (0 : Nat) ((List.map iD (o0 :: os)).length + (1 : Nat)) ((List.map iD (o0 :: os)).length + (1 : Nat)) false ∧ outD (2 : Nat) (List.map iD s'.snd.snd.snd.snd) = D.ms (2 : Nat) (0 : Nat) ((List.map iD (m0 :: ms)).length + (1 : Nat)) ((List.map iD (m0 :: ms)).length + (1 : Nat)) false ∧ D.sl g (List.map strD N) = D.sl g (List.map strD N) ∧ D.int IntKind.i64 (↑(List.map strD N).length : Int) = D.int IntKind.i64 (↑(List.map strD N).length : Int) ∧ D.int IntKind.i64 (↑s'.fst.length : Int) = D.int IntKind.i64 ((↑b.length : Int) + (1 : Int))) ∧ (outO (1 : Nat) (List.map iD s'.snd.snd.fst) = none ∨ outO (1 : Nat) (List.map iD s'.snd.snd.fst) = some (Ob.row St.own (1 : Nat) (List.take (List.map iD (u0 :: us)).length (List.map iD (u0 :: us)) ++ [D.int IntKind.i64 ((10000 : Int) * (↑(List.map statD (gaiz y (List.map dStat (List.map statD l)))).length : Int) / (↑(List.map statD l).length : Int))])) ∧ (List.take (List.map iD (u0 :: us)).length (List.map iD (u0 :: us)) ++ [D.int IntKind.i64 ((10000 : Int) * (↑(List.map statD (gaiz y (List.map dStat (List.map statD l)))).length : Int) / (↑(List.map statD l).length : Int))]).all D.pure = true) ∧ (outO (1 : Nat) (List.map iD s'.snd.snd.snd.fst) = none ∨ outO (1 : Nat) (List.map iD s'.snd.snd.snd.fst) = some (Ob.row St.own (1 : Nat) (List.take (List.map iD (o0 :: os)).length (List.map iD (o0 :: os)) ++ [D.int IntKind.i64 (0 : Int)])) ∧ (List.take (List.map iD (o0 :: os)).length (List.map iD (o0 :: os)) ++ [D.int IntKind.i64 (0 : Int)]).all D.pure = true) ∧ (outO (1 : Nat) (List.map iD s'.snd.snd.snd.snd) = none ∨ outO (1 : Nat) (List.map iD s'.snd.snd.snd.snd) = some (Ob.row St.own (1 : Nat) (List.take (List.map iD (m0 :: ms)).length (List.map iD (m0 :: ms)) ++ [D.int IntKind.i64 (0 : Int)])) ∧ (List.take (List.map iD (m0 :: ms)).length (List.map iD (m0 :: ms)) ++ [D.int IntKind.i64 (0 : Int)]).all D.pure = true)) ∧ (decide ((↑b.length : Int) = (↑h : Int)) = false → inK IntKind.i64 ((10000 : Int) * (↑(List.map statD (gaiz y (List.map dStat (List.map statD l)))).length : Int)) ∧ (0 : Int) ≤ (10000 : Int) * (↑(List.map statD (gaiz y (List.map dStat (List.map statD l)))).length : Int) ∧ (0 : Int) < (↑(List.map statD l).length : Int) ∧ inK IntKind.i64 ((10000 : Int) * (↑(List.map statD (gaiz y (List.map dStat (List.map statD l)))).length : Int)) ∧ inK IntKind.i64 ((10000 : Int) * (↑(List.map statD (gaiz y (List.map dStat (List.map statD l)))).length : Int) / (↑(List.map statD l).length : Int) - ev) ∧ (0 : Nat) + (List.map iD (o0 :: os)).length ≤ (List.map iD (o0 :: os)).length ∧ (List.map iD (o0 :: os)).length ≤ (List.map iD (o0 :: os)).length ∧ ((List.map iD (o0 :: os)).length + (1 : Nat)) * (8 : Nat) ≤ (140737488355328 : Nat) ∧ (List.map iD (o0 :: os)).length.succ ≤ (List.map iD (o0 :: os)).length + (1 : Nat) ∧ (0 : Nat) = (0 : Nat) ∧ (0 : Nat) + (List.map iD (m0 :: ms)).length ≤ (List.map iD (m0 :: ms)).length ∧ (List.map iD (m0 :: ms)).length ≤ (List.map iD (m0 :: ms)).length ∧ ((List.map iD (m0 :: ms)).length + (1 : Nat)) * (8 : Nat) ≤ (140737488355328 : Nat) ∧ (List.map iD (m0 :: ms)).length.succ ≤ (List.map iD (m0 :: ms)).length + (1 : Nat) ∧ (0 : Nat) = (0 : Nat) ∧ inK IntKind.i64 ((↑b.length : Int) + (1 : Int)) ∧ ∃ (s' : List ByteArray × List ByteArray × List Int × List Int × List Int), (s'.fst ++ s'.snd.fst = N ∧ s'.snd.snd.fst = tab s'.fst.length (fuI (↑l.length : Int) (manyI N l)) ∧ s'.snd.snd.snd.fst = tab s'.fst.length (foI (↑l.length : Int) ev h (manyI N l)) ∧ s'.snd.snd.snd.snd = tab s'.fst.length (fmI h (manyI N l)) ∧ N.length ≤ (1000 : Nat) ∧ l.length ≤ (1000 : Nat) ∧ (1 : Nat) ≤ l.length ∧ (0 : Int) ≤ ev ∧ ev ≤ (10000 : Int) ∧ (∀ (t : Stat), List.Mem t l → t.small) ∧ (N = [] → False)) ∧ s'.snd.fst.length.succ ≤ (x :: r).length ∧ () = () ∧ (D.sl f (List.map statD l) = D.sl f (List.map statD l) ∧ D.sl g (List.map strD N) = D.sl g (List.map strD N) ∧ D.int IntKind.i64 (↑h : Int) = D.int IntKind.i64 (↑h : Int) ∧ D.int IntKind.i64 ev = D.int IntKind.i64 ev ∧ outD (0 : Nat) (List.map iD s'.snd.snd.fst) = D.ms (0 : Nat) (0 : Nat) ((List.map iD (u0 :: us)).length + (1 : Nat)) ((List.map iD (u0 :: us)).length + (1 : Nat)) false ∧ outD (1 : Nat) (List.map iD s'.snd.snd.snd.fst) = D.ms (1 : Nat) (0 : Nat) ((List.map iD (o0 :: os)).length + (1 : Nat)) ((List.map iD (o0 :: os)).length + (1 : Nat)) false ∧ outD (2 : Nat) (List.map iD s'.snd.snd.snd.snd) = D.ms (2 : Nat) (0 : Nat) ((List.map iD (m0 :: ms)).length + (1 : Nat)) ((List.map iD (m0 :: ms)).length + (1 : Nat)) false ∧ D.sl g (List.map strD N) = D.sl g (List.map strD N) ∧ D.int IntKind.i64 (↑(List.map strD N).length : Int) = D.int IntKind.i64 (↑(List.map strD N).length : Int) ∧ D.int IntKind.i64 (↑s'.fst.length : Int) = D.int IntKind.i64 ((↑b.length : Int) + (1 : Int))) ∧ (outO (1 : Nat) (List.map iD s'.snd.snd.fst) = none ∨ outO (1 : Nat) (List.map iD s'.snd.snd.fst) = some (Ob.row St.own (1 : Nat) (List.take (List.map iD (u0 :: us)).length (List.map iD (u0 :: us)) ++ [D.int IntKind.i64 ((10000 : Int) * (↑(List.map statD (gaiz y (List.map dStat (List.map statD l)))).length : Int) / (↑(List.map statD l).length : Int))])) ∧ (List.take (List.map iD (u0 :: us)).length (List.map iD (u0 :: us)) ++ [D.int IntKind.i64 ((10000 : Int) * (↑(List.map statD (gaiz y (List.map dStat (List.map statD l)))).length : Int) / (↑(List.map statD l).length : Int))]).all D.pure = true) ∧ (outO (1 : Nat) (List.map iD s'.snd.snd.snd.fst) = none ∨ outO (1 : Nat) (List.map iD s'.snd.snd.snd.fst) = some (Ob.row St.own (1 : Nat) (List.take (List.map iD (o0 :: os)).length (List.map iD (o0 :: os)) ++ [D.int IntKind.i64 (max (0 : Int) ((10000 : Int) * (↑(List.map statD (gaiz y (List.map dStat (List.map statD l)))).length : Int) / (↑(List.map statD l).length : Int) - ev))])) ∧ (List.take (List.map iD (o0 :: os)).length (List.map iD (o0 :: os)) ++ [D.int IntKind.i64 (max (0 : Int) ((10000 : Int) * (↑(List.map statD (gaiz y (List.map dStat (List.map statD l)))).length : Int) / (↑(List.map statD l).length : Int) - ev))]).all D.pure = true) ∧ (outO (1 : Nat) (List.map iD s'.snd.snd.snd.snd) = none ∨ outO (1 : Nat) (List.map iD s'.snd.snd.snd.snd) = some (Ob.row St.own (1 : Nat) (List.take (List.map iD (m0 :: ms)).length (List.map iD (m0 :: ms)) ++ [D.int IntKind.i64 (↑(List.map statD (gaiz y (List.map dStat (List.map statD l)))).length : Int)])) ∧ (List.take (List.map iD (m0 :: ms)).length (List.map iD (m0 :: ms)) ++ [D.int IntKind.i64 (↑(List.map statD (gaiz y (List.map dStat (List.map statD l)))).length : Int)]).all D.pure = true))) (by kernel_rfl) ?_
      rw [map_dStat]
      refine ⟨decide_eq_true hll, x, by omega, hg, ⟨l, rfl, h6, h10⟩, ?_⟩
      rw [hK, hLs]
      have hUl : (List.map iD (u0 :: us)).length ≤ 1000 := by rw [List.length_map, h2, tab_len]; omega
      have hOl : (List.map iD (o0 :: os)).length ≤ 1000 := by rw [List.length_map, h3, tab_len]; omega
      have hMl : (List.map iD (m0 :: ms)).length ≤ 1000 := by rw [List.length_map, h4, tab_len]; omega
      refine ⟨ink (by omega), by omega, by omega, ink (by omega), by omega, by omega, by omega, by omega, rfl, fun he => ?_, fun he => ?_⟩
      · have he : (b).length = h := by have := of_decide_eq_true he; omega
        refine ⟨by omega, by omega, by omega, by omega, rfl, by omega, by omega, by omega, by omega, rfl, hin, (b ++ [x], r, (u0 :: us) ++ [fuI l.length (manyI N l) (b).length], (o0 :: os) ++ [0], (m0 :: ms) ++ [0]), ⟨hok, by simp only [hla]; rw [tab_succ, ← h2], by simp only [hla]; rw [tab_succ, ← h3]; exact congrArg (fun v => (o0 :: os) ++ [v]) (by unfold foI; rw [if_pos he]), by simp only [hla]; rw [tab_succ, ← h4]; exact congrArg (fun v => (m0 :: ms) ++ [v]) (by unfold fmI; rw [if_pos he]), h5, h6, h7, h8, h9, h10, hN⟩, Nat.le_refl _, rfl, ?_, .inr (oR (u0 :: us) _), .inr (oR (o0 :: os) _), .inr (oR (m0 :: ms) _)⟩
        repeat' apply And.intro
        all_goals first
          | exact rfl
          | exact hix
          | exact oD _ (u0 :: us) _
          | exact oD _ (o0 :: os) _
          | exact oD _ (m0 :: ms) _
      · have he : (b).length ≠ h := by have := of_decide_eq_false he; omega
        refine ⟨ink (by omega), by omega, by omega, ink (by omega), ink (by omega), by omega, by omega, by omega, by omega, rfl, by omega, by omega, by omega, by omega, rfl, hin, (b ++ [x], r, (u0 :: us) ++ [fuI l.length (manyI N l) (b).length], (o0 :: os) ++ [max 0 (ovI l.length ev (manyI N l) (b).length)], (m0 :: ms) ++ [manyI N l (b).length]), ⟨hok, by simp only [hla]; rw [tab_succ, ← h2], by simp only [hla]; rw [tab_succ, ← h3]; exact congrArg (fun v => (o0 :: os) ++ [v]) (by unfold foI; rw [if_neg he]), by simp only [hla]; rw [tab_succ, ← h4]; exact congrArg (fun v => (m0 :: ms) ++ [v]) (by unfold fmI; rw [if_neg he]), h5, h6, h7, h8, h9, h10, hN⟩, Nat.le_refl _, rfl, ?_, .inr (oR (u0 :: us) _), .inr (oR (o0 :: os) _), .inr (oR (m0 :: ms) _)⟩
        repeat' apply And.intro
        all_goals first
          | exact rfl
          | exact hix
          | exact oD _ (u0 :: us) _
          | exact oD _ (o0 :: os) _
          | exact oD _ (m0 :: ms) _
end Go.Proofs.Ytgibpomhiilehaa.Dv
