/- state.Copy by reference: what it hands out may be written. -/
import Derived.Test.YtgibpomhiilehaaM3
set_option linter.unusedVariables false
set_option linter.unusedSimpArgs false
namespace Go.Proofs.Ytgibpomhiilehaa.Dv
open Go Go.Proofs
theorem resCp_eq (l : List Stat) : resCp l = l.map Stat.cp := by
  unfold resCp
  rw [List.filter_eq_self.2]
  intro t _
  rfl
theorem cpRN (f : Bool) (t : Stat) (l : List Stat) (h1 : (t :: l).length ≤ 1000) (h2 : ∀ x ∈ t :: l, x.small) : ∃ (b : List Stat × List Stat × List Stat), (b.fst ++ b.snd.fst = t :: l ∧ resCp b.fst = b.snd.snd ∧ (t :: l).length ≤ (1000 : Nat) ∧ ∀ (t : Stat), List.Mem t b.snd.fst → t.small) ∧ ((D.fn (91 : Nat) [] [] = D.fn (91 : Nat) [] [] ∧ outD (0 : Nat) (List.map statD b.snd.snd) = D.sl true [] ∧ D.sl f (List.map statD (t :: l)) = D.sl f (List.map statD (t :: l)) ∧ D.int IntKind.i64 (↑(List.map statD (t :: l)).length : Int) = D.int IntKind.i64 (↑(List.map statD (t :: l)).length : Int) ∧ D.int IntKind.i64 (↑b.fst.length : Int) = D.int IntKind.i64 (0 : Int)) ∧ (outO (21 : Nat) (List.map statD b.snd.snd) = none ∨ outO (21 : Nat) (List.map statD b.snd.snd) = none ∧ False)) ∧ (∀ (a : Unit), resCp (t :: l) = [] → D.ms (0 : Nat) (0 : Nat) (l.length + (1 : Nat)) (l.length + (1 : Nat)) false = D.sl true [] ∧ (some (Ob.row St.own (21 : Nat) (List.map statD (List.map Stat.cp (t :: l)))) = none ∨ some (Ob.row St.own (21 : Nat) (List.map statD (List.map Stat.cp (t :: l)))) = none ∧ False)) ∧ ∀ (a : Stat × List Stat), resCp (t :: l) = a.fst :: a.snd → D.ms (0 : Nat) (0 : Nat) (l.length + (1 : Nat)) (l.length + (1 : Nat)) false = D.ms (0 : Nat) (0 : Nat) (List.map statD (a.fst :: a.snd)).length (List.map statD (a.fst :: a.snd)).length false ∧ (some (Ob.row St.own (21 : Nat) (List.map statD (List.map Stat.cp (t :: l)))) = none ∨ some (Ob.row St.own (21 : Nat) (List.map statD (List.map Stat.cp (t :: l)))) = some (Ob.row St.own (21 : Nat) (List.map statD (a.fst :: a.snd))) ∧ (List.map statD (a.fst :: a.snd)).all D.pure = true) := by
  refine ⟨([], t :: l, []), ⟨rfl, rfl, h1, h2⟩, ⟨?_, .inl rfl⟩, fun _ h => ?_, fun a h => ?_⟩
  · repeat' apply And.intro
    all_goals rfl
  · rw [resCp_eq] at h; cases h
  · rw [resCp_eq] at h
    rw [← h]
    exact ⟨by rw [List.length_map, List.length_map]; rfl, .inr ⟨rfl, pure_statD _⟩⟩
theorem cpRN0 (f : Bool) : ∃ (b : List Stat × List Stat × List Stat), (b.fst ++ b.snd.fst = [] ∧ resCp b.fst = b.snd.snd ∧ (0 : Nat) ≤ (1000 : Nat) ∧ ∀ (t : Stat), List.Mem t b.snd.fst → t.small) ∧ ((D.fn (91 : Nat) [] [] = D.fn (91 : Nat) [] [] ∧ outD (0 : Nat) (List.map statD b.snd.snd) = D.sl true [] ∧ D.sl f [] = D.sl f [] ∧ D.int IntKind.i64 (0 : Int) = D.int IntKind.i64 (0 : Int) ∧ D.int IntKind.i64 (↑b.fst.length : Int) = D.int IntKind.i64 (0 : Int)) ∧ (outO (21 : Nat) (List.map statD b.snd.snd) = none ∨ outO (21 : Nat) (List.map statD b.snd.snd) = none ∧ False)) ∧ (∀ (a : Unit), nilT Stat = [] → D.sl true [] = D.sl true []) ∧ ∀ (a : Stat × List Stat), nilT Stat = a.fst :: a.snd → D.sl true [] = D.any := by
  refine ⟨([], [], []), ⟨rfl, rfl, by omega, fun t h => by cases h⟩, ⟨?_, .inl rfl⟩, fun _ _ => rfl, fun a h => by cases h⟩
  repeat' apply And.intro
  all_goals rfl
theorem cpR0_ref (f : Bool) : RefFun Try.prog 90 [.sl f [], .fn 91 [] []] [] (.sl true []) [] := by
  refine refFunW (C := pkCpg f []) (ctrsR_ok pkCpl [] rfl rfl rfl rfl) [] rfl Try.func90 (by kernel_rfl) (l := [lp Try.f90 3]) (by kernel_rfl) (fun x hx => ?_) (by kernel_rfl) (by kernel_rfl) (cpRN0 f)
  rw [List.mem_singleton.1 hx]
  exact (pkCp f []).fits 3 [(0, true)] (by kernel_rfl) rfl (pkCpR f [])
theorem cpR_ref (f : Bool) (t : Stat) (l : List Stat) (h1 : (t :: l).length ≤ 1000) (h2 : ∀ x ∈ t :: l, x.small) : RefFun Try.prog 90 [.sl f ((t :: l).map statD), .fn 91 [] []] [] (.ms 0 0 (l.length + 1) (l.length + 1) false) [some (.row .own 21 (((t :: l).map Stat.cp).map statD))] := by
  refine refFunW (C := pkCpg f (t :: l)) (ctrsR_ok pkCpl [] rfl rfl rfl rfl) [(0, true)] rfl Try.func90 (by kernel_rfl) (l := [lp Try.f90 3]) (by kernel_rfl) (fun x hx => ?_) (by kernel_rfl) (by kernel_rfl) (cpRN f t l h1 h2)
  rw [List.mem_singleton.1 hx]
  exact (pkCp f (t :: l)).fits 3 [(0, true)] (by kernel_rfl) rfl (pkCpR f (t :: l))
/-- What is gathered in an empty store is gathered behind any. -/
theorem gather_all {f : FuncId} {esz n : Nat} {args : List D} {ys : List D} (ha : args.map (ren (asSrc [])) = args) (h : RefFun Try.prog f args [] (.ms 0 0 n n false) [some (.row .own esz ys)]) (hq : ys.all D.pure = true) (σ : Store) : RefFun Try.prog f args σ (.ms σ.length 0 n n false) (σ ++ [some (.row .own esz ys)]) := by
  have hsub : SubSt [] σ [] := ⟨rfl, by simp, fun k id hk => by simp at hk⟩
  have hb : BackSt [] [0] σ [some (.row .own esz ys)] (σ ++ [some (.row .own esz ys)]) := by
    refine ⟨by simp, by simp, by simp, fun k hk => ?_, fun id hid _ => obj_app_lt hid, fun k id hk => by simp at hk, fun j k hk => ?_⟩
    · have : k = 0 := by simpa using hk
      subst this
      refine ⟨by simp, fun o ho => ?_⟩
      injection ho with ho; exact ⟨_, _, ho.symm⟩
    · match j, hk with
      | 0, hk =>
        injection hk with hk; subst hk
        right
        exact ⟨_, _, _, _, rfl, by rw [Nat.add_zero]; exact obj_app_eq .., .inl ⟨rfl, hq⟩⟩
  have hf := RefFun.frame (args := args) hsub hb (by rw [ha]; exact h)
  have e4 : ren (asSrc (backL [] [0] σ.length)) (.ms 0 0 n n false) = .ms σ.length 0 n n false := by
    have : rid (asSrc (backL [] [0] σ.length)) 0 = some σ.length := by
      unfold rid
      rw [asSrc_fst]
      exact idx_back rfl (by simp) (by decide)
    simp only [ren, renLeaf, this]
  rw [e4] at hf
  exact hf
theorem nothing_all {f : FuncId} {args : List D} (ha : args.map (ren (asSrc [])) = args) (h : RefFun Try.prog f args [] (.sl true []) []) (σ : Store) : RefFun Try.prog f args σ (.sl true []) σ := by
  have hsub : SubSt [] σ [] := ⟨rfl, by simp, fun k id hk => by simp at hk⟩
  have hb : BackSt [] [] σ [] σ := ⟨by simp, by simp, by simp, by simp, fun id hid _ => rfl, fun k id hk => by simp at hk, fun j k hk => by simp at hk⟩
  exact RefFun.frame (args := args) hsub hb (by rw [ha]; exact h)
def cpPS (vs : List D) (σ : Store) : Option (Prop × D × Store) := match vs with
  | [.sl f xs, .fn 91 [] []] => match xs with
    | [] => some (True, .sl true [], σ)
    | x :: xs => some (∃ (t : Stat) (l : List Stat), x = statD t ∧ xs = l.map statD ∧ (t :: l).length ≤ 1000 ∧ ∀ u ∈ t :: l, u.small, .ms σ.length 0 (xs.length + 1) (xs.length + 1) false, σ ++ [some (.row .own 21 ((((x :: xs).map dStat).map Stat.cp).map statD))])
  | _ => none
def cpPC : RCtr := ⟨90, cpPS, false, (by
  intro vs σ p r σ' h hp
  unfold cpPS at h
  split at h
  · rename_i f xs
    split at h
    · injection h with h; injection h with h4 h; injection h with h5 h6
      subst h4 h5 h6
      exact nothing_all rfl (cpR0_ref f) _
    · rename_i x xs
      injection h with h; injection h with h4 h; injection h with h5 h6
      subst h4 h5 h6
      obtain ⟨t, l, rfl, rfl, h1, h2⟩ := hp
      have e : ((statD t :: l.map statD).map dStat) = t :: l := map_dStat (t :: l)
      rw [e, List.length_map]
      exact gather_all rfl (cpR_ref f t l h1 h2) (pure_statD _) _
  · cases h), (fun h => by cases h)⟩
theorem stRN (f : Bool) (x : D) (xs : List D) (h : ∃ (t : Stat) (l : List Stat), x = statD t ∧ xs = l.map statD ∧ (t :: l).length ≤ 1000 ∧ ∀ u ∈ t :: l, u.small) : (∃ (t : Stat), ∃ (l : List Stat), x = D.agg [D.int IntKind.i64 t.id, D.str t.addr, D.int IntKind.i64 t.prio, D.str t.zone, D.int IntKind.i64 t.w, D.sl t.f (List.map pairD t.mt), D.bool t.up, D.int IntKind.i64 t.run, D.int IntKind.i64 t.forced, D.int IntKind.i64 t.wait, D.int IntKind.i64 t.errors, D.int IntKind.i64 t.bok, D.int IntKind.i64 t.ball, D.bool t.out, D.int IntKind.i64 t.frm, D.int IntKind.i64 t.till, D.int IntKind.i64 t.times, D.bool t.drains, D.int IntKind.i64 t.gone, D.int IntKind.i64 t.since, D.int IntKind.i64 t.active] ∧ xs = List.map statD l ∧ (t :: l).length ≤ (1000 : Nat) ∧ ∀ (u : Stat), List.Mem u (t :: l) → u.small) ∧ D.ms (0 : Nat) (0 : Nat) (xs.length + (1 : Nat)) (xs.length + (1 : Nat)) false = D.ms (0 : Nat) (0 : Nat) (xs.length + (1 : Nat)) (xs.length + (1 : Nat)) false ∧ (some (Ob.row St.own (21 : Nat) (List.map statD (List.map Stat.cp (List.map dStat (x :: xs))))) = none ∨ some (Ob.row St.own (21 : Nat) (List.map statD (List.map Stat.cp (List.map dStat (x :: xs))))) = some (Ob.row St.own (21 : Nat) (List.map statD (List.map Stat.cp (List.map dStat (x :: xs))))) ∧ (List.map statD (List.map Stat.cp (List.map dStat (x :: xs)))).all D.pure = true) := by
  exact ⟨h, rfl, .inr ⟨rfl, pure_statD _⟩⟩
theorem stRN0 (f : Bool) : True ∧ D.sl true [] = D.sl true [] := ⟨trivial, rfl⟩
def stRS (vs : List D) (σ : Store) : Option (Prop × D × Store) := match vs with
  | [.sl f xs] => match xs with
    | [] => some (True, .sl true [], σ)
    | x :: xs => some (∃ (t : Stat) (l : List Stat), x = statD t ∧ xs = l.map statD ∧ (t :: l).length ≤ 1000 ∧ ∀ u ∈ t :: l, u.small, .ms σ.length 0 (xs.length + 1) (xs.length + 1) false, σ ++ [some (.row .own 21 ((((x :: xs).map dStat).map Stat.cp).map statD))])
  | _ => none
/-- state.Copy: a row of one's own. -/
def stRC : RCtr := ⟨55, stRS, false, (by
  intro vs σ p r σ' h hp
  unfold stRS at h
  split at h
  · rename_i f xs
    split at h
    · injection h with h; injection h with h4 h; injection h with h5 h6
      subst h4 h5 h6
      exact nothing_all rfl (refFunW (C := zCfg 0 [] [cpPC] []) (ctrsR_ok [] [cpPC] rfl rfl rfl rfl) [] rfl Try.func55 (by kernel_rfl) (l := []) (by kernel_rfl) (fun x hx => by cases hx) (by kernel_rfl) (by kernel_rfl) (stRN0 f)) _
    · rename_i x xs
      injection h with h; injection h with h4 h; injection h with h5 h6
      subst h4 h5 h6
      exact gather_all rfl (refFunW (C := zCfg 0 [] [cpPC] []) (ctrsR_ok [] [cpPC] rfl rfl rfl rfl) [(0, true)] rfl Try.func55 (by kernel_rfl) (l := []) (by kernel_rfl) (fun x hx => by cases hx) (by kernel_rfl) (by kernel_rfl) (stRN f x xs hp)) (pure_statD _) _
  · cases h), (fun h => by cases h)⟩
end Go.Proofs.Ytgibpomhiilehaa.Dv
