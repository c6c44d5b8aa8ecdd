/- ZoneWhole: shares are 10000 together; who has its even share or more keeps all. -/
import Derived.Test.YtgibpomhiilehaaN6
set_option linter.unusedVariables false
set_option linter.unusedSimpArgs false
namespace Go.Proofs.Ytgibpomhiilehaa.Dv
open Go Go.Proofs
def shT (n : Nat) (part : Nat → Int) : List Shr := tab n fun i => ((i : Int), part i)
theorem tab_succ {α : Type} (k : Nat) (f : Nat → α) : tab (k + 1) f = tab k f ++ [f k] := by unfold tab; rw [List.range_succ, List.map_append]; rfl
theorem tab_sum_succ (k : Nat) (f : Nat → Int) : (tab (k + 1) f).sum = (tab k f).sum + f k := by rw [tab_succ]; simp
theorem tab_sum_le {f : Nat → Int} : ∀ {n : Nat} (_ : ∀ i, i < n → 0 ≤ f i) {k : Nat}, k ≤ n → 0 ≤ (tab k f).sum ∧ (tab k f).sum ≤ (tab n f).sum
  | 0, _, k, h => by have : k = 0 := by omega
                     subst this; exact ⟨Int.le_refl 0, Int.le_refl _⟩
  | n + 1, hf, k, h => by
    have h1 := fun {k} => tab_sum_le (f := f) (n := n) (fun i hi => hf i (by omega)) (k := k)
    have h2 := hf n (by omega)
    have h3 := h1 (Nat.le_refl n)
    rw [tab_sum_succ]
    by_cases hk : k = n + 1
    · subst hk; rw [tab_sum_succ]; omega
    · have := h1 (k := k) (by omega); omega
def atK (own : ByteArray) (names : List ByteArray) (k : Nat) : Int := if hasB own names = true ∧ posB own names < k then (posB own names : Int) else -1
def sumK (names : List ByteArray) (l : List Stat) (k : Nat) : Int := (tab k (manyI names l)).sum
theorem atK_succ {own : ByteArray} {l : List Stat} {k : Nat} (hk : k < (zNames l).length) : atK own (zNames l) (k + 1) = if (zNames l)[k] = own then (k : Int) else atK own (zNames l) k := by
  obtain ⟨A, B, e, e1, e2, e3, e4⟩ := srt_split own (zNames_all l).1
  have hs := (zNames_all l).1
  by_cases h : (zNames l)[k] = own
  · rw [if_pos h]
    have hin : hasB own (zNames l) = true := hasB_iff.2 (h ▸ List.getElem_mem hk)
    have hp : posB own (zNames l) = k := by
      have hpl := zNames_own hin
      have ho : (zNames l)[posB own (zNames l)] = own := by
        have := many_own hin
        unfold nmAt at this
        rw [List.getD_eq_getElem?_getD, List.getElem?_eq_getElem hpl] at this
        exact this
      rcases Nat.lt_trichotomy (posB own (zNames l)) k with g | g | g
      · have := List.pairwise_iff_getElem.1 hs _ _ hpl hk g
        rw [ho, h, lessB_irrefl] at this; cases this
      · exact g
      · have := List.pairwise_iff_getElem.1 hs _ _ hk hpl g
        rw [ho, h, lessB_irrefl] at this; cases this
    unfold atK
    rw [hp, if_pos ⟨hin, by omega⟩]
  · rw [if_neg h]
    unfold atK
    by_cases hin : hasB own (zNames l) = true
    · have hpl := zNames_own hin
      have ho : (zNames l)[posB own (zNames l)] = own := by
        have := many_own hin
        unfold nmAt at this
        rw [List.getD_eq_getElem?_getD, List.getElem?_eq_getElem hpl] at this
        exact this
      have hne : posB own (zNames l) ≠ k := by rintro g; subst g; exact h ho
      have : (posB own (zNames l) < k + 1) ↔ (posB own (zNames l) < k) := by omega
      simp only [this]
    · rw [if_neg (fun g => hin g.1), if_neg (fun g => hin g.1)]
noncomputable def zwC : List Ctr := [l16C, aw19, nmC, zshC, inC]
def zwA (f g : Bool) (own : ByteArray) (l : List Stat) (S : List Shr) : WLoop :=
  { St := Nat
    O := Unit
    T := fun k => [(0, .sl f (l.map statD)), (1, .str own), (5, .sl g ((zNames l).map strD)), (6, .sl true (S.map shD)), (7, .int .i64 (atK own (zNames l) k)), (8, .int .i64 (sumK (zNames l) l k)), (30, .sl g ((zNames l).map strD)), (31, .int .i64 ((zNames l).map strD).length), (32, .int .i64 k)]
    ok := fun k => k ≤ (zNames l).length ∧ l.length ≤ 1000 ∧ ∀ t ∈ l, t.small
    μ := fun k => (zNames l).length - k
    m := fun _ => ()
    outs := [{ α := Unit, is := fun _ _ => True, ex := .exit 0, T := fun _ => [(0, .sl f (l.map statD)), (1, .str own), (5, .sl g ((zNames l).map strD)), (6, .sl true (S.map shD)), (7, .int .i64 (atK own (zNames l) (zNames l).length)), (8, .int .i64 l.length)] }] }
theorem zwAR (f g : Bool) (own : ByteArray) (l : List Stat) (S : List Shr) (k : Nat) (hs : (zwA f g own l S).ok k) : Tri Try.prog 0 156 (lp Try.f6 6) (tb ((zwA f g own l S).T k)) ((zwA f g own l S).S k) ((zwA f g own l S).q 0 k) := by
  obtain ⟨h1, h2, h3⟩ := hs
  refine round0 (C := nCfg 0 zwC [] []) (ctrs_ok (zwC) rfl rfl) (by kernel_rfl) (by kernel_rfl) (q := (decide ((↑k : Int) < (↑(List.map strD (zNames l)).length : Int)) = true → ∃ (y : ByteArray), (0 : Int) ≤ (↑k : Int) ∧ (List.map strD (zNames l))[(↑k : Int).toNat]? = some (D.str y) ∧ (∃ (l_1 : List Stat), List.map statD l = List.map statD l_1 ∧ l_1.length ≤ (1000 : Nat) ∧ ∀ (u : Stat), List.Mem u l_1 → u.addr.size ≤ (140737488355328 : Nat) ∧ u.zone.size ≤ (140737488355328 : Nat) ∧ u.mt.length ≤ (4398046511104 : Nat) ∧ ∀ (p : ByteArray × ByteArray), List.Mem p u.mt → p.fst.size ≤ (140737488355328 : Nat) ∧ p.snd.size ≤ (140737488355328 : Nat)) ∧ (decide ((↑(List.map statD (keptZ y (List.map Stat.cp (List.map dStat (List.map statD l))))).length : Int) = (0 : Int)) = true → False) ∧ (decide ((↑(List.map statD (keptZ y (List.map Stat.cp (List.map dStat (List.map statD l))))).length : Int) = (0 : Int)) = false → (decide ((0 : Int) < (↑k : Int)) = true → inK IntKind.i64 ((↑k : Int) - (1 : Int)) ∧ ∃ (y_1 : ByteArray), (0 : Int) ≤ (↑k : Int) - (1 : Int) ∧ (List.map strD (zNames l))[((↑k : Int) - (1 : Int)).toNat]? = some (D.str y_1) ∧ ((Op.bytesLess y.data.toList y_1.data.toList || decide (y = y_1)) = true → False) ∧ ((Op.bytesLess y.data.toList y_1.data.toList || decide (y = y_1)) = false → (∃ (l_1 : List Stat), List.map statD l = List.map statD l_1 ∧ l_1.length ≤ (1000 : Nat) ∧ ∀ (u : Stat), List.Mem u l_1 → u.addr.size ≤ (140737488355328 : Nat) ∧ u.zone.size ≤ (140737488355328 : Nat) ∧ u.mt.length ≤ (4398046511104 : Nat) ∧ ∀ (p : ByteArray × ByteArray), List.Mem p u.mt → p.fst.size ≤ (140737488355328 : Nat) ∧ p.snd.size ≤ (140737488355328 : Nat)) ∧ inK IntKind.i64 (sumK (zNames l) l k + (↑(List.map statD (keptZ y (List.map Stat.cp (List.map dStat (List.map statD l))))).length : Int)) ∧ (decide (y = own) = true → inK IntKind.i64 ((↑k : Int) + (1 : Int)) ∧ ∃ (s' : Nat), (s' ≤ (zNames l).length ∧ l.length ≤ (1000 : Nat) ∧ ∀ (t : Stat), List.Mem t l → t.addr.size ≤ (140737488355328 : Nat) ∧ t.zone.size ≤ (140737488355328 : Nat) ∧ t.mt.length ≤ (4398046511104 : Nat) ∧ ∀ (p : ByteArray × ByteArray), List.Mem p t.mt → p.fst.size ≤ (140737488355328 : Nat) ∧ p.snd.size ≤ (140737488355328 : Nat)) ∧ ((zNames l).length - s').succ ≤ (zNames l).length - k ∧ () = () ∧ D.sl f (List.map statD l) = D.sl f (List.map statD l) ∧ D.str own = D.str own ∧ D.sl g (List.map strD (zNames l)) = D.sl g (List.map strD (zNames l)) ∧ D.sl true (List.map shD S) = D.sl true (List.map shD S) ∧ D.int IntKind.i64 (atK own (zNames l) s') = D.int IntKind.i64 (↑k : Int) ∧ D.int IntKind.i64 (sumK (zNames l) l s') = D.int IntKind.i64 (sumK (zNames l) l k + (↑(List.map statD (keptZ y (List.map Stat.cp (List.map dStat (List.map statD l))))).length : Int)) ∧ D.sl g (List.map strD (zNames l)) = D.sl g (List.map strD (zNames l)) ∧ D.int IntKind.i64 (↑(List.map strD (zNames l)).length : Int) = D.int IntKind.i64 (↑(List.map strD (zNames l)).length : Int) ∧ D.int IntKind.i64 (↑s' : Int) = D.int IntKind.i64 ((↑k : Int) + (1 : Int))) ∧ (decide (y = own) = false → inK IntKind.i64 ((↑k : Int) + (1 : Int)) ∧ ∃ (s' : Nat), (s' ≤ (zNames l).length ∧ l.length ≤ (1000 : Nat) ∧ ∀ (t : Stat), List.Mem t l → t.addr.size ≤ (140737488355328 : Nat) ∧ t.zone.size ≤ (140737488355328 : Nat) ∧ t.mt.length ≤ (4398046511104 : Nat) ∧ ∀ (p : ByteArray × ByteArray), List.Mem p t.mt → p.fst.size ≤ (140737488355328 : Nat) ∧ p.snd.size ≤ (140737488355328 : Nat)) ∧ ((zNames l).length - s').succ ≤ (zNames l).length - k ∧ () = () ∧ D.sl f (List.map statD l) = D.sl f (List.map statD l) ∧ D.str own = D.str own ∧ D.sl g (List.map strD (zNames l)) = D.sl g (List.map strD (zNames l)) ∧ D.sl true (List.map shD S) = D.sl true (List.map shD S) ∧ D.int IntKind.i64 (atK own (zNames l) s') = D.int IntKind.i64 (atK own (zNames l) k) ∧ D.int IntKind.i64 (sumK (zNames l) l s') = D.int IntKind.i64 (sumK (zNames l) l k + (↑(List.map statD (keptZ y (List.map Stat.cp (List.map dStat (List.map statD l))))).length : Int)) ∧ D.sl g (List.map strD (zNames l)) = D.sl g (List.map strD (zNames l)) ∧ D.int IntKind.i64 (↑(List.map strD (zNames l)).length : Int) = D.int IntKind.i64 (↑(List.map strD (zNames l)).length : Int) ∧ D.int IntKind.i64 (↑s' : Int) = D.int IntKind.i64 ((↑k : Int) + (1 : Int))))) ∧ (decide ((0 : Int) < (↑k : Int)) = false → (∃ (l_1 : List Stat), List.map statD l = List.map statD l_1 ∧ l_1.length ≤ (1000 : Nat) ∧ ∀ (u : Stat), List.Mem u l_1 → u.addr.size ≤ (140737488355328 : Nat) ∧ u.zone.size ≤ (140737488355328 : Nat) ∧ u.mt.length ≤ (4398046511104 : Nat) ∧ ∀ (p : ByteArray × ByteArray), List.Mem p u.mt → p.fst.size ≤ (140737488355328 : Nat) ∧ p.snd.size ≤ (140737488355328 : Nat)) ∧ inK IntKind.i64 (sumK (zNames l) l k + (↑(List.map statD (keptZ y (List.map Stat.cp (List.map dStat (List.map statD l))))).length : Int)) ∧ (decide (y = own) = true → inK IntKind.i64 ((↑k : Int) + (1 : Int)) ∧ ∃ (s' : Nat), (s' ≤ (zNames l).length ∧ l.length ≤ (1000 : Nat) ∧ ∀ (t : Stat), List.Mem t l → t.addr.size ≤ (140737488355328 : Nat) ∧ t.zone.size ≤ (140737488355328 : Nat) ∧ t.mt.length ≤ (4398046511104 : Nat) ∧ ∀ (p : ByteArray × ByteArray), List.Mem p t.mt → p.fst.size ≤ (140737488355328 : Nat) ∧ p.snd.size ≤ (140737488355328 : Nat)) ∧ ((zNames l).length - s').succ ≤ (zNames l).length - k ∧ () = () ∧ D.sl f (List.map statD l) = D.sl f (List.map statD l) ∧ D.str own = D.str own ∧ D.sl g (List.map strD (zNames l)) = D.sl g (List.map strD (zNames l)) ∧ D.sl true (List.map shD S) = D.sl true (List.map shD S) ∧ D.int IntKind.i64 (atK own (zNames l) s') = D.int IntKind.i64 (↑k : Int) ∧ D.int IntKind.i64 (sumK (zNames l) l s') = D.int IntKind.i64 (sumK (zNames l) l k + (↑(List.map statD (keptZ y (List.map Stat.cp (List.map dStat (List.map statD l))))).length : Int)) ∧ D.sl g (List.map strD (zNames l)) = D.sl g (List.map strD (zNames l)) ∧ D.int IntKind.i64 (↑(List.map strD (zNames l)).length : Int) = D.int IntKind.i64 (↑(List.map strD (zNames l)).length : Int) ∧ D.int IntKind.i64 (↑s' : Int) = D.int IntKind.i64 ((↑k : Int) + (1 : Int))) ∧ (decide (y = own) = false → inK IntKind.i64 ((↑k : Int) + (1 : Int)) ∧ ∃ (s' : Nat), (s' ≤ (zNames l).length ∧ l.length ≤ (1000 : Nat) ∧ ∀ (t : Stat), List.Mem t l → t.addr.size ≤ (140737488355328 : Nat) ∧ t.zone.size ≤ (140737488355328 : Nat) ∧ t.mt.length ≤ (4398046511104 : Nat) ∧ ∀ (p : ByteArray × ByteArray), List.Mem p t.mt → p.fst.size ≤ (140737488355328 : Nat) ∧ p.snd.size ≤ (140737488355328 : Nat)) ∧ ((zNames l).length - s').succ ≤ (zNames l).length - k ∧ () = () ∧ D.sl f (List.map statD l) = D.sl f (List.map statD l) ∧ D.str own = D.str own ∧ D.sl g (List.map strD (zNames l)) = D.sl g (List.map strD (zNames l)) ∧ D.sl true (List.map shD S) = D.sl true (List.map shD S) ∧ D.int IntKind.i64 (atK own (zNames l) s') = D.int IntKind.i64 (atK own (zNames l) k) ∧ D.int IntKind.i64 (sumK (zNames l) l s') = D.int IntKind.i64 (sumK (zNames l) l k + (↑(List.map statD (keptZ y (List.map Stat.cp (List.map dStat (List.map statD l))))).length : Int)) ∧ D.sl g (List.map strD (zNames l)) = D.sl g (List.map strD (zNames l)) ∧ D.int IntKind.i64 (↑(List.map strD (zNames l)).length : Int) = D.int IntKind.i64 (↑(List.map strD (zNames l)).length : Int) ∧ D.int IntKind.i64 (↑s' : Int) = D.int IntKind.i64 ((↑k : Int) + (1 : Int)))))) ∧ (decide ((↑k : Int) < (↑(List.map strD (zNames l)).length : Int)) = false → ∃ (a : Unit), True ∧ D.sl f (List.map statD l) = D.sl f (List.map statD l) ∧ D.str own = D.str own ∧ D.sl g (List.map strD (zNames l)) = D.sl g (List.map strD (zNames l)) ∧ D.sl true (List.map shD S) = D.sl true (List.map shD S) ∧ D.int IntKind.i64 (atK own (zNames l) (zNames l).length) = D.int IntKind.i64 (atK own (zNames l) k) ∧ D.int IntKind.i64 (↑l.length : Int) = D.int IntKind.i64 (sumK (zNames l) l k))) (by kernel_rfl) ?_
  have hN : sumK (zNames l) l (zNames l).length = l.length := by
    unfold sumK
    rw [← cntZ_tab]
    exact cnt_sum (zNames_all l).1 l fun t ht => ((zNames_all l).2.2 _).2 ⟨t, ht, rfl⟩
  have hnn : ∀ i, 0 ≤ manyI (zNames l) l i := fun i => (many_bound _ h2 i).1
  rw [map_dStat]
  refine ⟨fun hlt => ?_, fun hge => ?_⟩
  · have hlt : k < (zNames l).length := by have := of_decide_eq_true hlt; rw [List.length_map] at this; omega
    have hget : ∀ j (hj : j < (zNames l).length), (List.map strD (zNames l))[((j : Nat) : Int).toNat]? = some (strD (zNames l)[j]) := by
      intro j hj
      rw [Int.toNat_natCast, List.getElem?_map, List.getElem?_eq_getElem hj]; rfl
    have hc : ((List.map statD (keptZ (zNames l)[k] (List.map Stat.cp l))).length : Int) = manyI (zNames l) l k := by
      rw [List.length_map, keptZ_cp, List.length_map]
      unfold manyI nmAt
      rw [List.getD_eq_getElem?_getD, List.getElem?_eq_getElem hlt]; rfl
    have hpos := many_pos hlt
    have hs1 : sumK (zNames l) l (k + 1) = sumK (zNames l) l k + manyI (zNames l) l k := tab_sum_succ k _
    have hb1 : 0 ≤ sumK (zNames l) l (k + 1) ∧ sumK (zNames l) l (k + 1) ≤ sumK (zNames l) l (zNames l).length := tab_sum_le (fun i _ => hnn i) hlt
    have hat := atK_succ (own := own) hlt
    have hnl := (zNames_all l).2.1
    have inc : inK .i64 ((k : Int) + 1) := ink (by omega)
    refine ⟨(zNames l)[k], by omega, hget k hlt, ⟨l, rfl, h2, h3⟩, fun h0 => ?_, fun _ => ⟨fun hk0 => ?_, fun _ => ?_⟩⟩
    · have := of_decide_eq_true h0
      rw [hc] at this
      omega
    · have hk0 : 0 < k := by have := of_decide_eq_true hk0; omega
      have hj : k - 1 < (zNames l).length := by omega
      have hg' := hget (k - 1) hj
      rw [show ((k - 1 : Nat) : Int) = (k : Int) - 1 by omega] at hg'
      have hless : lessB (zNames l)[k - 1] (zNames l)[k] = true := List.pairwise_iff_getElem.1 (zNames_all l).1 _ _ hj hlt (by omega)
      refine ⟨ink (by omega), (zNames l)[k - 1], by omega, hg', fun hb => ?_, fun _ => ?_⟩
      · rw [Bool.or_eq_true] at hb
        rcases hb with hb | hb
        · have := lessB_asymm hless
          rw [show lessB (zNames l)[k] (zNames l)[k - 1] = true from hb] at this; cases this
        · rw [← of_decide_eq_true hb, lessB_irrefl] at hless; cases hless
      refine ⟨⟨l, rfl, h2, h3⟩, ink (by rw [hc]; omega), fun he => ⟨inc, k + 1, ⟨by omega, h2, h3⟩, by omega, rfl, ?_⟩, fun he => ⟨inc, k + 1, ⟨by omega, h2, h3⟩, by omega, rfl, ?_⟩⟩
      · have he := of_decide_eq_true he
        rw [hc]
        repeat' apply And.intro
        all_goals first
          | rfl
          | exact congrArg _ (hat.trans (if_pos he))
          | exact congrArg _ hs1
      · have he := of_decide_eq_false he
        rw [hc]
        repeat' apply And.intro
        all_goals first
          | rfl
          | exact congrArg _ (hat.trans (if_neg he))
          | exact congrArg _ hs1
    · refine ⟨⟨l, rfl, h2, h3⟩, ink (by rw [hc]; omega), fun he => ⟨inc, k + 1, ⟨by omega, h2, h3⟩, by omega, rfl, ?_⟩, fun he => ⟨inc, k + 1, ⟨by omega, h2, h3⟩, by omega, rfl, ?_⟩⟩
      · have he := of_decide_eq_true he
        rw [hc]
        repeat' apply And.intro
        all_goals first
          | rfl
          | exact congrArg _ (hat.trans (if_pos he))
          | exact congrArg _ hs1
      · have he := of_decide_eq_false he
        rw [hc]
        repeat' apply And.intro
        all_goals first
          | rfl
          | exact congrArg _ (hat.trans (if_neg he))
          | exact congrArg _ hs1
  · have hge : k = (zNames l).length := by have := of_decide_eq_false hge; rw [List.length_map] at this; omega
    subst hge
    refine ⟨(), trivial, ?_⟩
    repeat' apply And.intro
    all_goals first
      | rfl
      | exact congrArg _ hN.symm
def zwB (f g : Bool) (own : ByteArray) (l : List Stat) (n : Nat) (part : Nat → Int) (at' : Int) : WLoop :=
  { St := Nat
    O := Unit
    T := fun k => [(0, .sl f (l.map statD)), (1, .str own), (5, .sl g ((zNames l).map strD)), (6, .sl true ((shT n part).map shD)), (7, .int .i64 at'), (11, .int .i64 (tab k part).sum), (92, .sl true ((shT n part).map shD)), (93, .int .i64 ((shT n part).map shD).length), (94, .int .i64 k)]
    ok := fun k => k ≤ n ∧ n ≤ 1000 ∧ (tab n part).sum = 10000 ∧ ∀ i, i < n → 0 ≤ part i
    μ := fun k => n - k
    m := fun _ => ()
    outs := [{ α := Unit, is := fun _ _ => True, ex := .exit 2, T := fun _ => [(0, .sl f (l.map statD)), (1, .str own), (5, .sl g ((zNames l).map strD)), (6, .sl true ((shT n part).map shD)), (7, .int .i64 at'), (11, .int .i64 10000)] }] }
theorem zwBR (f g : Bool) (own : ByteArray) (l : List Stat) (n : Nat) (part : Nat → Int) (at' : Int) (k : Nat) (hs : (zwB f g own l n part at').ok k) : Tri Try.prog 0 156 (lp Try.f6 22) (tb ((zwB f g own l n part at').T k)) ((zwB f g own l n part at').S k) ((zwB f g own l n part at').q 0 k) := by
  obtain ⟨h1, h2, h3, h4⟩ := hs
  refine round0 (C := nCfg 0 zwC [] []) (ctrs_ok (zwC) rfl rfl) (by kernel_rfl) (by kernel_rfl) (q := (decide ((↑k : Int) < (↑(List.map shD (shT n part)).length : Int)) = true → ∃ (y : Int × Int), (0 : Int) ≤ (↑k : Int) ∧ (List.map shD (shT n part))[(↑k : Int).toNat]? = some (D.agg [D.int IntKind.i64 y.fst, D.int IntKind.i64 y.snd]) ∧ (decide (y.fst ≠ (↑k : Int)) = true → False) ∧ (decide (y.fst ≠ (↑k : Int)) = false → (decide (y.snd < (0 : Int)) = true → False) ∧ (decide (y.snd < (0 : Int)) = false → inK IntKind.i64 ((tab k part).sum + y.snd) ∧ inK IntKind.i64 ((↑k : Int) + (1 : Int)) ∧ ∃ (s' : Nat), (s' ≤ n ∧ n ≤ (1000 : Nat) ∧ (tab n part).sum = (10000 : Int) ∧ ∀ (i : Nat), i.succ ≤ n → (0 : Int) ≤ part i) ∧ (n - s').succ ≤ n - k ∧ () = () ∧ D.sl f (List.map statD l) = D.sl f (List.map statD l) ∧ D.str own = D.str own ∧ D.sl g (List.map strD (zNames l)) = D.sl g (List.map strD (zNames l)) ∧ D.sl true (List.map shD (shT n part)) = D.sl true (List.map shD (shT n part)) ∧ D.int IntKind.i64 at' = D.int IntKind.i64 at' ∧ D.int IntKind.i64 (tab s' part).sum = D.int IntKind.i64 ((tab k part).sum + y.snd) ∧ D.sl true (List.map shD (shT n part)) = D.sl true (List.map shD (shT n part)) ∧ D.int IntKind.i64 (↑(List.map shD (shT n part)).length : Int) = D.int IntKind.i64 (↑(List.map shD (shT n part)).length : Int) ∧ D.int IntKind.i64 (↑s' : Int) = D.int IntKind.i64 ((↑k : Int) + (1 : Int))))) ∧ (decide ((↑k : Int) < (↑(List.map shD (shT n part)).length : Int)) = false → ∃ (a : Unit), True ∧ D.sl f (List.map statD l) = D.sl f (List.map statD l) ∧ D.str own = D.str own ∧ D.sl g (List.map strD (zNames l)) = D.sl g (List.map strD (zNames l)) ∧ D.sl true (List.map shD (shT n part)) = D.sl true (List.map shD (shT n part)) ∧ D.int IntKind.i64 at' = D.int IntKind.i64 at' ∧ D.int IntKind.i64 (10000 : Int) = D.int IntKind.i64 (tab k part).sum)) (by kernel_rfl) ?_
  have hln : ((List.map shD (shT n part)).length : Int) = n := by rw [List.length_map]; unfold shT; rw [tab_len]
  refine ⟨fun hlt => ?_, fun hge => ?_⟩
  · have hlt : k < n := by have := of_decide_eq_true hlt; rw [hln] at this; omega
    have hg : (List.map shD (shT n part))[((k : Nat) : Int).toNat]? = some (shD ((k : Int), part k)) := by
      rw [Int.toNat_natCast, List.getElem?_map]
      unfold shT
      rw [tab_get _ hlt]; rfl
    have hp := h4 k hlt
    have hb := tab_sum_le h4 (k := k + 1) hlt
    have hs := tab_sum_succ k part
    refine ⟨((k : Int), part k), by omega, hg, fun h => absurd rfl (of_decide_eq_true h), fun _ => ⟨fun h => ?_, fun _ => ⟨ink (by show _ ≤ (tab k part).sum + part k ∧ (tab k part).sum + part k ≤ _; omega), ink (by omega), k + 1, ⟨by omega, h2, h3, h4⟩, by omega, rfl, ?_⟩⟩⟩
    · have h : part k < 0 := of_decide_eq_true h
      omega
    · repeat' apply And.intro
      all_goals first
        | rfl
        | exact congrArg _ hs
  · have hge : k = n := by have := of_decide_eq_false hge; rw [hln] at this; omega
    subst hge
    refine ⟨(), trivial, ?_⟩
    repeat' apply And.intro
    all_goals first
      | rfl
      | exact congrArg _ h3.symm
noncomputable def zwCfg (f : Bool) (own : ByteArray) (l : List Stat) (part : Nat → Int) : WCfg := { nCfg 0 zwC [] [] with loops := fun k => match k with
  | 6 => some ((zwA f (zNames l).isEmpty own l (zsh own l)).row [])
  | 22 => some ((zwB f (zNames l).isEmpty own l (zNames l).length part (atK own (zNames l) (zNames l).length)).row [])
  | _ => none }
def PartOk (own : ByteArray) (l : List Stat) (part : Nat → Int) : Prop :=
  l.length ≤ 81 → own ≠ ByteArray.mk #[] → hasB own (zNames l) = true → 2 ≤ (zNames l).length →
    zsh own l = shT (zNames l).length part ∧ (∀ i, i < (zNames l).length → 0 ≤ part i) ∧ (tab (zNames l).length part).sum = 10000 ∧ (evZ (zNames l).length ≤ 10000 * ((keptZ own l).length : Int) / l.length → part (posB own (zNames l)) = 10000) ∧ 10000 * ((keptZ own l).length : Int) / l.length ≤ part (posB own (zNames l)) ∧
      (¬ evZ (zNames l).length ≤ 10000 * ((keptZ own l).length : Int) / l.length → part (posB own (zNames l)) = 10000 * (10000 * ((keptZ own l).length : Int) / l.length) / evZ (zNames l).length)
theorem partOk_ex (own : ByteArray) (l : List Stat) : ∃ part, PartOk own l part := by
  by_cases h : l.length ≤ 81 ∧ own ≠ ByteArray.mk #[] ∧ hasB own (zNames l) = true ∧ 2 ≤ (zNames l).length
  · obtain ⟨a, b, c, d⟩ := h
    have hn := (zNames_all l).2.1
    obtain ⟨part, hp⟩ := zsh_ok b c d (by omega) (by omega)
    exact ⟨part, fun _ _ _ _ => hp⟩
  · exact ⟨fun _ => 0, fun a b c d => absurd ⟨a, b, c, d⟩ h⟩
theorem zwN (f : Bool) (own : ByteArray) (l : List Stat) (part : Nat → Int) (h1 : l.length ≤ 1000000000000) (h2 : ∀ t ∈ l, t.small) (hp : PartOk own l part) : (∃ (l_1 : List Stat), List.map statD l = List.map statD l_1 ∧ l_1.length ≤ (1000000000000 : Nat) ∧ ∀ (t : Stat), List.Mem t l_1 → t.addr.size ≤ (140737488355328 : Nat) ∧ t.zone.size ≤ (140737488355328 : Nat) ∧ t.mt.length ≤ (4398046511104 : Nat) ∧ ∀ (p : ByteArray × ByteArray), List.Mem p t.mt → p.fst.size ≤ (140737488355328 : Nat) ∧ p.snd.size ≤ (140737488355328 : Nat)) ∧ (decide ((0 : Int) < lit16 (List.map dStat (List.map statD l)) (0 : Nat)) = true → True ∧ D.bool true = D.bool true) ∧ (decide ((0 : Int) < lit16 (List.map dStat (List.map statD l)) (0 : Nat)) = false → (decide ((100 : Int) < (↑own.size : Int)) = true → True ∧ D.bool true = D.bool true) ∧ (decide ((100 : Int) < (↑own.size : Int)) = false → (∃ (l_1 : List Stat), List.map statD l = List.map statD l_1 ∧ l_1.length ≤ (1000 : Nat)) ∧ (∃ (l_1 : List Stat), List.map statD l = List.map statD l_1 ∧ l_1.length ≤ (1000 : Nat) ∧ (zNames l_1).length ≤ (100 : Nat)) ∧ ∃ (b : Nat), (b ≤ (zNames l).length ∧ l.length ≤ (1000 : Nat) ∧ ∀ (t : Stat), List.Mem t l → t.addr.size ≤ (140737488355328 : Nat) ∧ t.zone.size ≤ (140737488355328 : Nat) ∧ t.mt.length ≤ (4398046511104 : Nat) ∧ ∀ (p : ByteArray × ByteArray), List.Mem p t.mt → p.fst.size ≤ (140737488355328 : Nat) ∧ p.snd.size ≤ (140737488355328 : Nat)) ∧ (D.sl f (List.map statD l) = D.sl f (List.map statD l) ∧ D.str own = D.str own ∧ D.sl (zNames l).isEmpty (List.map strD (zNames l)) = D.sl (zNames (List.map dStat (List.map statD l))).isEmpty (List.map strD (zNames (List.map dStat (List.map statD l)))) ∧ D.sl true (List.map shD (zsh own l)) = D.sl true (List.map shD (zsh own (List.map dStat (List.map statD l)))) ∧ D.int IntKind.i64 (atK own (zNames l) b) = D.int IntKind.i64 (-1 : Int) ∧ D.int IntKind.i64 (sumK (zNames l) l b) = D.int IntKind.i64 (0 : Int) ∧ D.sl (zNames l).isEmpty (List.map strD (zNames l)) = D.sl (zNames (List.map dStat (List.map statD l))).isEmpty (List.map strD (zNames (List.map dStat (List.map statD l)))) ∧ D.int IntKind.i64 (↑(List.map strD (zNames l)).length : Int) = D.int IntKind.i64 (↑(List.map strD (zNames (List.map dStat (List.map statD l)))).length : Int) ∧ D.int IntKind.i64 (↑b : Int) = D.int IntKind.i64 (0 : Int)) ∧ ∀ (a : Unit), True → (decide ((↑l.length : Int) ≠ (↑(List.map statD l).length : Int)) = true → D.bool false = D.bool true) ∧ (decide ((↑l.length : Int) ≠ (↑(List.map statD l).length : Int)) = false → (decide (own = ByteArray.mk #[]) = true → (decide ((↑(List.map shD (zsh own l)).length : Int) = (0 : Int)) = true → True ∧ D.bool true = D.bool true) ∧ (decide ((↑(List.map shD (zsh own l)).length : Int) = (0 : Int)) = false → D.bool false = D.bool true)) ∧ (decide (own = ByteArray.mk #[]) = false → (decide (atK own (zNames l) (zNames l).length < (0 : Int)) = true → (decide ((↑(List.map shD (zsh own l)).length : Int) = (0 : Int)) = true → True ∧ D.bool true = D.bool true) ∧ (decide ((↑(List.map shD (zsh own l)).length : Int) = (0 : Int)) = false → D.bool false = D.bool true)) ∧ (decide (atK own (zNames l) (zNames l).length < (0 : Int)) = false → (decide ((↑(List.map strD (zNames l)).length : Int) < (2 : Int)) = true → (decide ((↑(List.map shD (zsh own l)).length : Int) = (0 : Int)) = true → True ∧ D.bool true = D.bool true) ∧ (decide ((↑(List.map shD (zsh own l)).length : Int) = (0 : Int)) = false → D.bool false = D.bool true)) ∧ (decide ((↑(List.map strD (zNames l)).length : Int) < (2 : Int)) = false → (decide ((↑(List.map shD (zsh own l)).length : Int) ≠ (↑(List.map strD (zNames l)).length : Int)) = true → D.bool false = D.bool true) ∧ (decide ((↑(List.map shD (zsh own l)).length : Int) ≠ (↑(List.map strD (zNames l)).length : Int)) = false → ∃ (b : Nat), (b ≤ (zNames l).length ∧ (zNames l).length ≤ (1000 : Nat) ∧ (tab (zNames l).length part).sum = (10000 : Int) ∧ ∀ (i : Nat), i.succ ≤ (zNames l).length → (0 : Int) ≤ part i) ∧ (D.sl f (List.map statD l) = D.sl f (List.map statD l) ∧ D.str own = D.str own ∧ D.sl (zNames l).isEmpty (List.map strD (zNames l)) = D.sl (zNames l).isEmpty (List.map strD (zNames l)) ∧ D.sl true (List.map shD (shT (zNames l).length part)) = D.sl true (List.map shD (zsh own l)) ∧ D.int IntKind.i64 (atK own (zNames l) (zNames l).length) = D.int IntKind.i64 (atK own (zNames l) (zNames l).length) ∧ D.int IntKind.i64 (tab b part).sum = D.int IntKind.i64 (0 : Int) ∧ D.sl true (List.map shD (shT (zNames l).length part)) = D.sl true (List.map shD (zsh own l)) ∧ D.int IntKind.i64 (↑(List.map shD (shT (zNames l).length part)).length : Int) = D.int IntKind.i64 (↑(List.map shD (zsh own l)).length : Int) ∧ D.int IntKind.i64 (↑b : Int) = D.int IntKind.i64 (0 : Int)) ∧ ∀ (a : Unit), True → (∃ (l_1 : List Stat), List.map statD l = List.map statD l_1 ∧ l_1.length ≤ (1000 : Nat) ∧ ∀ (u : Stat), List.Mem u l_1 → u.addr.size ≤ (140737488355328 : Nat) ∧ u.zone.size ≤ (140737488355328 : Nat) ∧ u.mt.length ≤ (4398046511104 : Nat) ∧ ∀ (p : ByteArray × ByteArray), List.Mem p u.mt → p.fst.size ≤ (140737488355328 : Nat) ∧ p.snd.size ≤ (140737488355328 : Nat)) ∧ inK IntKind.i64 ((10000 : Int) * (↑(List.map statD (keptZ own (List.map Stat.cp (List.map dStat (List.map statD l))))).length : Int)) ∧ (0 : Int) ≤ (10000 : Int) * (↑(List.map statD (keptZ own (List.map Stat.cp (List.map dStat (List.map statD l))))).length : Int) ∧ (0 : Int) < (↑(List.map statD l).length : Int) ∧ inK IntKind.i64 ((10000 : Int) * (↑(List.map statD (keptZ own (List.map Stat.cp (List.map dStat (List.map statD l))))).length : Int)) ∧ (0 : Int) ≤ (10000 : Int) ∧ (0 : Int) < (↑(List.map strD (zNames l)).length : Int) ∧ inK IntKind.i64 (10000 : Int) ∧ (true = true → ((!decide ((10000 : Int) / (↑(List.map strD (zNames l)).length : Int) ≤ (10000 : Int) * (↑(List.map statD (keptZ own (List.map Stat.cp (List.map dStat (List.map statD l))))).length : Int) / (↑(List.map statD l).length : Int))) = true → ∃ (y : Int × Int), (0 : Int) ≤ atK own (zNames l) (zNames l).length ∧ (List.map shD (shT (zNames l).length part))[(atK own (zNames l) (zNames l).length).toNat]? = some (D.agg [D.int IntKind.i64 y.fst, D.int IntKind.i64 y.snd]) ∧ inK IntKind.i64 ((10000 : Int) * (↑(List.map statD (keptZ own (List.map Stat.cp (List.map dStat (List.map statD l))))).length : Int)) ∧ (0 : Int) ≤ (10000 : Int) * (↑(List.map statD (keptZ own (List.map Stat.cp (List.map dStat (List.map statD l))))).length : Int) ∧ (0 : Int) < (↑(List.map statD l).length : Int) ∧ inK IntKind.i64 ((10000 : Int) * (↑(List.map statD (keptZ own (List.map Stat.cp (List.map dStat (List.map statD l))))).length : Int)) ∧ (decide ((10000 : Int) * (↑(List.map statD (keptZ own (List.map Stat.cp (List.map dStat (List.map statD l))))).length : Int) / (↑(List.map statD l).length : Int) ≤ y.snd) = true → True ∧ D.bool true = D.bool true) ∧ (decide ((10000 : Int) * (↑(List.map statD (keptZ own (List.map Stat.cp (List.map dStat (List.map statD l))))).length : Int) / (↑(List.map statD l).length : Int) ≤ y.snd) = false → D.bool false = D.bool true)) ∧ ((!decide ((10000 : Int) / (↑(List.map strD (zNames l)).length : Int) ≤ (10000 : Int) * (↑(List.map statD (keptZ own (List.map Stat.cp (List.map dStat (List.map statD l))))).length : Int) / (↑(List.map statD l).length : Int))) = false → ∃ (y : Int × Int), (0 : Int) ≤ atK own (zNames l) (zNames l).length ∧ (List.map shD (shT (zNames l).length part))[(atK own (zNames l) (zNames l).length).toNat]? = some (D.agg [D.int IntKind.i64 y.fst, D.int IntKind.i64 y.snd]) ∧ (decide (y.snd = (10000 : Int)) = true → ∃ (y : Int × Int), (0 : Int) ≤ atK own (zNames l) (zNames l).length ∧ (List.map shD (shT (zNames l).length part))[(atK own (zNames l) (zNames l).length).toNat]? = some (D.agg [D.int IntKind.i64 y.fst, D.int IntKind.i64 y.snd]) ∧ inK IntKind.i64 ((10000 : Int) * (↑(List.map statD (keptZ own (List.map Stat.cp (List.map dStat (List.map statD l))))).length : Int)) ∧ (0 : Int) ≤ (10000 : Int) * (↑(List.map statD (keptZ own (List.map Stat.cp (List.map dStat (List.map statD l))))).length : Int) ∧ (0 : Int) < (↑(List.map statD l).length : Int) ∧ inK IntKind.i64 ((10000 : Int) * (↑(List.map statD (keptZ own (List.map Stat.cp (List.map dStat (List.map statD l))))).length : Int)) ∧ (decide ((10000 : Int) * (↑(List.map statD (keptZ own (List.map Stat.cp (List.map dStat (List.map statD l))))).length : Int) / (↑(List.map statD l).length : Int) ≤ y.snd) = true → True ∧ D.bool true = D.bool true) ∧ (decide ((10000 : Int) * (↑(List.map statD (keptZ own (List.map Stat.cp (List.map dStat (List.map statD l))))).length : Int) / (↑(List.map statD l).length : Int) ≤ y.snd) = false → D.bool false = D.bool true)) ∧ (decide (y.snd = (10000 : Int)) = false → D.bool false = D.bool true))) ∧ (true = false → D.bool false = D.bool true)))))))) := by
  have hc : ((List.map statD (keptZ own (List.map Stat.cp l))).length : Int) = (keptZ own l).length := by
    rw [List.length_map, keptZ_cp, List.length_map]
  rw [map_dStat, hc, show (List.map statD l).length = l.length from List.length_map .., show (List.map strD (zNames l)).length = (zNames l).length from List.length_map ..]
  refine ⟨⟨l, rfl, h1, h2⟩, fun _ => ⟨trivial, rfl⟩, fun h => ⟨fun _ => ⟨trivial, rfl⟩, fun _ => ?_⟩⟩
  have hl := lit16_len (l := l) (i := 0) (by omega) (of_decide_eq_false h)
  have hl : l.length ≤ 81 := by omega
  have hn := (zNames_all l).2.1
  have hnil : ∀ x : List Shr, x = [] → ((List.map shD x).length : Int) = 0 := by rintro _ rfl; rfl
  have fin : zsh own l = [] → ((decide (((List.map shD (zsh own l)).length : Int) = 0) = true → True ∧ D.bool true = D.bool true) ∧ (decide (((List.map shD (zsh own l)).length : Int) = 0) = false → D.bool false = D.bool true)) := fun e => ⟨fun _ => ⟨trivial, rfl⟩, fun g => absurd (hnil _ e) (of_decide_eq_false g)⟩
  refine ⟨⟨l, rfl, by omega⟩, ⟨l, rfl, by omega, by omega⟩, 0, ⟨by omega, by omega, h2⟩, ?_, fun _ _ => ⟨fun g => absurd rfl (of_decide_eq_true g), fun _ => ⟨fun g => ?_, fun g0 => ⟨fun g => ?_, fun ga => ⟨fun g => ?_, fun gn => ?_⟩⟩⟩⟩⟩
  · repeat' apply And.intro
    all_goals first
      | rfl
      | (unfold atK; rw [if_neg (by omega)])
  · exact fin (if_pos (.inl (of_decide_eq_true g)))
  · refine fin (if_pos (.inr (.inl ?_)))
    have g := of_decide_eq_true g
    cases hh : hasB own (zNames l) with
    | false => rfl
    | true =>
      unfold atK at g
      rw [if_pos ⟨hh, zNames_own hh⟩] at g
      omega
  · have g : (zNames l).length < 2 := by have := of_decide_eq_true g; omega
    exact fin (if_pos (.inr (.inr g)))
  have g0 := of_decide_eq_false g0
  have ga := of_decide_eq_false ga
  have gn : 2 ≤ (zNames l).length := by have := of_decide_eq_false gn; omega
  have hh : hasB own (zNames l) = true := by
    cases hh : hasB own (zNames l) with
    | true => rfl
    | false => exfalso; apply ga; unfold atK; rw [if_neg (by rw [hh]; rintro ⟨g, _⟩; cases g)]; omega
  have hown := zNames_own hh
  have hat : atK own (zNames l) (zNames l).length = posB own (zNames l) := by unfold atK; rw [if_pos ⟨hh, hown⟩]
  obtain ⟨p1, p2, p3, p4, p5, p6⟩ := hp hl g0 hh gn
  have hlen : ((List.map shD (shT (zNames l).length part)).length : Int) = (zNames l).length := by rw [List.length_map]; unfold shT; rw [tab_len]
  have hL : 0 < l.length := by omega
  rw [p1, hlen, hat]
  have hget : (List.map shD (shT (zNames l).length part))[((posB own (zNames l) : Nat) : Int).toNat]? = some (shD ((posB own (zNames l) : Int), part (posB own (zNames l)))) := by
    rw [Int.toNat_natCast, List.getElem?_map]
    unfold shT
    rw [tab_get _ hown]; rfl
  have hkl : (keptZ own l).length ≤ l.length := List.length_filter_le ..
  refine ⟨fun g => absurd rfl (of_decide_eq_true g), fun _ => ⟨0, ⟨by omega, by omega, p3, p2⟩, ?_, fun _ _ => ?_⟩⟩
  · repeat' apply And.intro
    all_goals rfl
  refine ⟨⟨l, rfl, by omega, h2⟩, ink (by omega), by omega, by omega, ink (by omega), by omega, by omega, ink (by omega), fun _ => ⟨fun g => ?_, fun g => ?_⟩, (fun g => by cases g)⟩
  · exact ⟨_, by omega, hget, ink (by omega), by omega, by omega, ink (by omega), fun _ => ⟨trivial, rfl⟩, fun g => absurd p5 (of_decide_eq_false g)⟩
  · have g : evZ (zNames l).length ≤ 10000 * ((keptZ own l).length : Int) / l.length := by
      rw [Bool.not_eq_false'] at g
      exact of_decide_eq_true g
    exact ⟨_, by omega, hget, fun _ => ⟨_, by omega, hget, ink (by omega), by omega, by omega, ink (by omega), fun _ => ⟨trivial, rfl⟩, fun g => absurd p5 (of_decide_eq_false g)⟩, fun g' => absurd (p4 g) (of_decide_eq_false g')⟩
theorem zoneWhole_law {x0 : List D} (o0 : OkL reachBytes [.sl true [.int .i64, .str, .int .i64, .str, .int .i64, .sl true [.str, .str], .bool, .int .i64, .int .i64, .int .i64, .int .i64, .int .i64, .int .i64, .bool, .int .i64, .int .i64, .int .i64, .bool, .int .i64, .int .i64, .int .i64]] x0) {x1 : List D} (o1 : OkL reachBytes [.str] x1) : DataFun Try.prog 6 [vOf false x0, vOf false x1] (.bool true) := by
  obtain ⟨f, l, rfl, h1, h2⟩ := okl1_stats o0
  cases o1 with | str g t =>
  cases t
  rename_i own
  obtain ⟨part, hp⟩ := partOk_ex own l
  refine dataFunL (C := zwCfg f own l part) (ctrs_ok zwC rfl rfl) rfl Try.func6 (by kernel_rfl) (l := [lp Try.f6 6, lp Try.f6 22]) (by kernel_rfl) ?_ (by kernel_rfl) (by kernel_rfl) (by kernel_rfl) (zwN f own l part h2 (fun t ht => (h1 t ht).1) hp)
  intro x hx
  simp only [List.mem_cons, List.not_mem_nil, or_false] at hx
  rcases hx with rfl | rfl
  · exact (zwA f _ own l _).fits 6 [] (by kernel_rfl) rfl fun s hs => zwAR f _ own l _ s hs
  · exact (zwB f _ own l _ part _).fits 22 [] (by kernel_rfl) rfl fun s hs => zwBR f _ own l _ part _ s hs
end Go.Proofs.Ytgibpomhiilehaa.Dv
