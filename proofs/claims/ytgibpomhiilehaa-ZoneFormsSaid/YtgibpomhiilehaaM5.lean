/- slices.IndexFunc of states, with zone.In's closure. -/
import Derived.Test.YtgibpomhiilehaaM4
set_option linter.unusedVariables false
set_option linter.unusedSimpArgs false
namespace Go.Proofs.Ytgibpomhiilehaa.Dv
open Go Go.Proofs
/-- The first of another zone. -/
def ixM (nm : ByteArray) : List Stat → Nat → Int
  | [], _ => -1
  | t :: r, i => if t.zone ≠ nm then (i : Int) else ixM nm r (i + 1)
def ixL (nm : ByteArray) (all : List Stat) : WLoop :=
  { St := List Stat × List Stat
    O := Int
    T := fun s => [(0, .ms 0 0 all.length all.length false), (1, .fn 56 [] [.ptr 1 0 0]), (7, .int .i64 all.length), (8, .int .i64 s.1.length)]
    S := fun s => [some (.row .own 21 (all.map statD)), some (.row .own 1 [.str nm])]
    ok := fun s => s.1 ++ s.2 = all ∧ all.length ≤ 1000
    μ := fun s => s.2.length
    m := fun s => ixM nm s.2 s.1.length
    src := [(0, true), (1, true)]
    outs := [{ α := Unit, is := fun o _ => o = -1, ex := .exit 0, src := [(0, true), (1, true)], T := fun _ => [], S := fun _ => [some (.row .own 21 (all.map statD)), some (.row .own 1 [.str nm])] },
      { α := Int, is := fun o a => o = a, ex := .ret, src := [(0, true), (1, true)], T := fun a => [(4, .int .i64 a)], S := fun _ => [some (.row .own 21 (all.map statD)), some (.row .own 1 [.str nm])] }] }
theorem ixR (nm : ByteArray) (all : List Stat) (s : (ixL nm all).St) (hs : (ixL nm all).ok s) : Tri Try.prog 2 19 (lp Try.f89 2) (tb ((ixL nm all).T s)) ((ixL nm all).S s) ((ixL nm all).q 2 s) := by
  obtain ⟨a, r⟩ := s
  obtain ⟨h1, h2⟩ := hs
  simp only at h1
  cases r with
  | nil =>
    refine round0 (C := zCfg 2 [] [zinC] [(9, .f)]) (ctrsR_ok [] [zinC] rfl rfl rfl rfl) (by kernel_rfl) (by kernel_rfl) (q := decide ((↑a.length : Int) < (↑all.length : Int)) = false ∧ ∃ (a : Unit), Int.negSucc (0 : Nat) = (-1 : Int) ∧ True ∧ (some (Ob.row St.own (21 : Nat) (List.map statD all)) = none ∨ some (Ob.row St.own (21 : Nat) (List.map statD all)) = some (Ob.row St.own (21 : Nat) (List.map statD all)) ∧ (List.map statD all).all D.pure = true) ∧ (some (Ob.row St.own (1 : Nat) [D.str nm]) = none ∨ some (Ob.row St.own (1 : Nat) [D.str nm]) = some (Ob.row St.own (1 : Nat) [D.str nm]) ∧ true = true)) (by kernel_rfl) ?_
    exact ⟨by rw [← h1]; simp, (), rfl, trivial, .inr ⟨rfl, pure_statD _⟩, .inr ⟨rfl, rfl⟩⟩
  | cons t r =>
    refine round0 (C := zCfg 2 [] [zinC] [(9, .t)]) (ctrsR_ok [] [zinC] rfl rfl rfl rfl) (by kernel_rfl) (by kernel_rfl) (q := decide ((↑a.length : Int) < (↑all.length : Int)) = true ∧ (0 : Int) ≤ (↑a.length : Int) ∧ (↑a.length : Int) < (↑all.length : Int) ∧ ∃ (x : Stat), (List.map statD all)[(0 : Nat) + (↑a.length : Int).toNat]? = some (D.agg [D.int IntKind.i64 x.id, D.str x.addr, D.int IntKind.i64 x.prio, D.str x.zone, D.int IntKind.i64 x.w, D.sl x.f (List.map pairD x.mt), D.bool x.up, D.int IntKind.i64 x.run, D.int IntKind.i64 x.forced, D.int IntKind.i64 x.wait, D.int IntKind.i64 x.errors, D.int IntKind.i64 x.bok, D.int IntKind.i64 x.ball, D.bool x.out, D.int IntKind.i64 x.frm, D.int IntKind.i64 x.till, D.int IntKind.i64 x.times, D.bool x.drains, D.int IntKind.i64 x.gone, D.int IntKind.i64 x.since, D.int IntKind.i64 x.active]) ∧ (∃ (t : Stat), D.agg [D.int IntKind.i64 x.id, D.str x.addr, D.int IntKind.i64 x.prio, D.str x.zone, D.int IntKind.i64 x.w, D.sl x.f (List.map pairD x.mt), D.bool x.up, D.int IntKind.i64 x.run, D.int IntKind.i64 x.forced, D.int IntKind.i64 x.wait, D.int IntKind.i64 x.errors, D.int IntKind.i64 x.bok, D.int IntKind.i64 x.ball, D.bool x.out, D.int IntKind.i64 x.frm, D.int IntKind.i64 x.till, D.int IntKind.i64 x.times, D.bool x.drains, D.int IntKind.i64 x.gone, D.int IntKind.i64 x.since, D.int IntKind.i64 x.active] = D.agg [D.int IntKind.i64 t.id, D.str t.addr, D.int IntKind.i64 t.prio, D.str t.zone, D.int IntKind.i64 t.w, D.sl t.f (List.map pairD t.mt), D.bool t.up, D.int IntKind.i64 t.run, D.int IntKind.i64 t.forced, D.int IntKind.i64 t.wait, D.int IntKind.i64 t.errors, D.int IntKind.i64 t.bok, D.int IntKind.i64 t.ball, D.bool t.out, D.int IntKind.i64 t.frm, D.int IntKind.i64 t.till, D.int IntKind.i64 t.times, D.bool t.drains, D.int IntKind.i64 t.gone, D.int IntKind.i64 t.since, D.int IntKind.i64 t.active]) ∧ (decide (x.zone ≠ nm) = true → ∃ (a_2 : Int), ixM nm (t :: r) a.length = a_2 ∧ D.int IntKind.i64 a_2 = D.int IntKind.i64 (↑a.length : Int) ∧ (some (Ob.row St.own (21 : Nat) (List.map statD all)) = none ∨ some (Ob.row St.own (21 : Nat) (List.map statD all)) = some (Ob.row St.own (21 : Nat) (List.map statD all)) ∧ (List.map statD all).all D.pure = true) ∧ (some (Ob.row St.own (1 : Nat) [D.str nm]) = none ∨ some (Ob.row St.own (1 : Nat) [D.str nm]) = some (Ob.row St.own (1 : Nat) [D.str nm]) ∧ true = true)) ∧ (decide (x.zone ≠ nm) = false → inK IntKind.i64 ((↑a.length : Int) + (1 : Int)) ∧ ∃ (s' : List Stat × List Stat), (s'.fst ++ s'.snd = all ∧ all.length ≤ (1000 : Nat)) ∧ s'.snd.length.succ ≤ (t :: r).length ∧ ixM nm s'.snd s'.fst.length = ixM nm (t :: r) a.length ∧ (D.ms (0 : Nat) (0 : Nat) all.length all.length false = D.ms (0 : Nat) (0 : Nat) all.length all.length false ∧ D.fn (56 : Nat) [] [D.ptr (1 : Nat) (0 : Nat) (0 : Nat)] = D.fn (56 : Nat) [] [D.ptr (1 : Nat) (0 : Nat) (0 : Nat)] ∧ D.int IntKind.i64 (↑all.length : Int) = D.int IntKind.i64 (↑all.length : Int) ∧ D.int IntKind.i64 (↑s'.fst.length : Int) = D.int IntKind.i64 ((↑a.length : Int) + (1 : Int))) ∧ (some (Ob.row St.own (21 : Nat) (List.map statD all)) = none ∨ some (Ob.row St.own (21 : Nat) (List.map statD all)) = some (Ob.row St.own (21 : Nat) (List.map statD all)) ∧ (List.map statD all).all D.pure = true) ∧ (some (Ob.row St.own (1 : Nat) [D.str nm]) = none ∨ some (Ob.row St.own (1 : Nat) [D.str nm]) = some (Ob.row St.own (1 : Nat) [D.str nm]) ∧ true = true))) (by kernel_rfl) ?_
    have hl : all.length = a.length + (r.length + 1) := by rw [← h1]; simp
    have hg : (List.map statD all)[0 + ((a.length : Int)).toNat]? = some (statD t) := by rw [← h1, Nat.zero_add]; exact get_midI statD a t r
    have e : ixM nm (t :: r) a.length = if t.zone ≠ nm then (a.length : Int) else ixM nm r (a.length + 1) := rfl
    refine ⟨decide_eq_true (by omega), by omega, by omega, t, hg, ⟨t, rfl⟩, fun h => ⟨a.length, by rw [e, if_pos (of_decide_eq_true h)], rfl, .inr ⟨rfl, pure_statD _⟩, .inr ⟨rfl, rfl⟩⟩, fun h => ⟨by simp only [inK]; omega, (a ++ [t], r), ⟨by rw [← h1]; simp, h2⟩, Nat.le_refl _, ?_, ?_, .inr ⟨rfl, pure_statD _⟩, .inr ⟨rfl, rfl⟩⟩⟩
    · rw [e, if_neg (of_decide_eq_false h)]
      simp
    · repeat' apply And.intro
      all_goals first
        | rfl
        | (simp; done)
noncomputable def ixCfg (nm : ByteArray) (all : List Stat) : WCfg := { zCfg 2 [] [zinC] [] with loops := fun k => match k with | 2 => some ((ixL nm all).row [(0, true), (1, true)]) | _ => none }
theorem ixN (nm : ByteArray) (all : List Stat) (h : all.length ≤ 1000) : ∃ (b : List Stat × List Stat), (b.fst ++ b.snd = all ∧ all.length ≤ (1000 : Nat)) ∧ ((D.ms (0 : Nat) (0 : Nat) all.length all.length false = D.ms (0 : Nat) (0 : Nat) all.length all.length false ∧ D.fn (56 : Nat) [] [D.ptr (1 : Nat) (0 : Nat) (0 : Nat)] = D.fn (56 : Nat) [] [D.ptr (1 : Nat) (0 : Nat) (0 : Nat)] ∧ D.int IntKind.i64 (↑all.length : Int) = D.int IntKind.i64 (↑all.length : Int) ∧ D.int IntKind.i64 (↑b.fst.length : Int) = D.int IntKind.i64 (0 : Int)) ∧ (some (Ob.row St.own (21 : Nat) (List.map statD all)) = none ∨ some (Ob.row St.own (21 : Nat) (List.map statD all)) = some (Ob.row St.own (21 : Nat) (List.map statD all)) ∧ (List.map statD all).all D.pure = true) ∧ (some (Ob.row St.own (1 : Nat) [D.str nm]) = none ∨ some (Ob.row St.own (1 : Nat) [D.str nm]) = some (Ob.row St.own (1 : Nat) [D.str nm]) ∧ true = true)) ∧ (∀ (a : Unit), ixM nm b.snd b.fst.length = (-1 : Int) → D.int IntKind.i64 (ixM nm all (0 : Nat)) = D.int IntKind.i64 (-1 : Int) ∧ (some (Ob.row St.own (21 : Nat) (List.map statD all)) = none ∨ some (Ob.row St.own (21 : Nat) (List.map statD all)) = some (Ob.row St.own (21 : Nat) (List.map statD all)) ∧ (List.map statD all).all D.pure = true) ∧ (some (Ob.row St.own (1 : Nat) [D.str nm]) = none ∨ some (Ob.row St.own (1 : Nat) [D.str nm]) = some (Ob.row St.own (1 : Nat) [D.str nm]) ∧ true = true)) ∧ ∀ (a : Int), ixM nm b.snd b.fst.length = a → D.int IntKind.i64 (ixM nm all (0 : Nat)) = D.int IntKind.i64 a ∧ (some (Ob.row St.own (21 : Nat) (List.map statD all)) = none ∨ some (Ob.row St.own (21 : Nat) (List.map statD all)) = some (Ob.row St.own (21 : Nat) (List.map statD all)) ∧ (List.map statD all).all D.pure = true) ∧ (some (Ob.row St.own (1 : Nat) [D.str nm]) = none ∨ some (Ob.row St.own (1 : Nat) [D.str nm]) = some (Ob.row St.own (1 : Nat) [D.str nm]) ∧ true = true) := by
  refine ⟨([], all), ⟨rfl, h⟩, ⟨?_, .inr ⟨rfl, pure_statD _⟩, .inr ⟨rfl, rfl⟩⟩, fun _ h => ⟨congrArg (D.int .i64) h, .inr ⟨rfl, pure_statD _⟩, .inr ⟨rfl, rfl⟩⟩, fun a h => ⟨congrArg (D.int .i64) h, .inr ⟨rfl, pure_statD _⟩, .inr ⟨rfl, rfl⟩⟩⟩
  repeat' apply And.intro
  all_goals rfl
theorem ix_ref (nm : ByteArray) (all : List Stat) (h : all.length ≤ 1000) : RefFun Try.prog 89 [.ms 0 0 all.length all.length false, .fn 56 [] [.ptr 1 0 0]] [some (.row .own 21 (all.map statD)), some (.row .own 1 [.str nm])] (.int .i64 (ixM nm all 0)) [some (.row .own 21 (all.map statD)), some (.row .own 1 [.str nm])] := by
  refine refFunW (C := ixCfg nm all) (ctrsR_ok [] [zinC] rfl rfl rfl rfl) [(0, true), (1, true)] rfl Try.func89 (by kernel_rfl) (l := [lp Try.f89 2]) (by kernel_rfl) (fun x hx => ?_) (by kernel_rfl) (by kernel_rfl) (ixN nm all h)
  rw [List.mem_singleton.1 hx]
  exact (ixL nm all).fits 2 [(0, true), (1, true)] (by kernel_rfl) rfl (ixR nm all)
def ixS (vs : List D) (σ : Store) : Option (Prop × D × Store) := match vs with
  | [.ms id 0 n m false, .fn 56 [] [.ptr b 0 0]] => match σ.obj id with
    | some (.row .own 21 xs) => match σ.obj b with
      | some (.row .own 1 [.str nm]) => some (id ≠ b ∧ n = xs.length ∧ m = n ∧ n ≤ 1000 ∧ ∃ l : List Stat, xs = l.map statD, .int .i64 (ixM nm (xs.map dStat) 0), σ)
      | _ => none
    | _ => none
  | _ => none
def ixC : RCtr := ⟨89, ixS, true, (by
  intro vs σ p r σ' h hp
  unfold ixS at h
  split at h
  · rename_i id n m b
    split at h
    · rename_i xs ho
      split at h
      · rename_i nm hb0
        injection h with h; injection h with e1 h; injection h with e2 e3
        subst e1 e2 e3
        obtain ⟨hne, hn, hm, h1, l, rfl⟩ := hp
        rw [List.length_map] at hn
        subst hn hm
        rw [map_dStat]
        have hsub : SubSt [id, b] σ [some (.row .own 21 (l.map statD)), some (.row .own 1 [.str nm])] := ⟨rfl, by simpa using hne, fun k i hk => by
          match k, hk with
          | 0, hk => injection hk with hk; subst hk; exact ⟨.own, 21, _, _, ho, rfl, .inl ⟨rfl, pure_statD _⟩⟩
          | 1, hk => injection hk with hk; subst hk; exact ⟨.own, 1, [.str nm], [.str nm], hb0, rfl, .inl ⟨rfl, rfl⟩⟩⟩
        have hb : BackSt [id, b] [] σ [some (.row .own 21 (l.map statD)), some (.row .own 1 [.str nm])] σ := ⟨by simp, by simp, by simp, by simp, fun id _ _ => rfl, fun k i hk => by
          match k, hk with
          | 0, hk => injection hk with hk; subst hk; exact .inr ⟨.own, 21, _, _, rfl, ho, .inl ⟨rfl, pure_statD _⟩⟩
          | 1, hk => injection hk with hk; subst hk; exact .inr ⟨.own, 1, [.str nm], [.str nm], rfl, hb0, .inl ⟨rfl, rfl⟩⟩, fun j k hk => by simp at hk⟩
        have h0 : rid (asSrc [id, b]) id = some 0 := by
          unfold rid
          rw [asSrc_fst]
          simp [List.idxOf?_cons]
        have h1' : rid (asSrc [id, b]) b = some 1 := by
          unfold rid
          rw [asSrc_fst]
          simp [List.idxOf?_cons, hne]
        have hf := RefFun.frame (args := [.ms id 0 l.length l.length false, .fn 56 [] [.ptr b 0 0]]) hsub hb (by
          have e : [D.ms id 0 l.length l.length false, .fn 56 [] [.ptr b 0 0]].map (ren (asSrc [id, b])) = [.ms 0 0 l.length l.length false, .fn 56 [] [.ptr 1 0 0]] := by
            simp only [List.map_cons, List.map_nil, ren, renLeaf, h0, h1']
          rw [e]
          exact ix_ref nm l h1)
        exact hf
      · cases h
    · cases h
  · cases h), (by
  intro _ vs σ p r σ' h
  unfold ixS at h
  split at h
  · split at h
    · split at h
      · injection h with h; injection h with _ h; injection h with _ h; exact h.symm
      · cases h
    · cases h
  · cases h)⟩
end Go.Proofs.Ytgibpomhiilehaa.Dv
