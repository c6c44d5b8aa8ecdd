/- slices.DeleteFunc of hosts with how their requests went, with spread.Bad's closure (printed by wip/tools/delf.py). -/
import Derived.Test.YtfclelafcdcilaaPB
import Derived.Test.YtfclelafcdcilaaG2
set_option linter.unusedVariables false
set_option linter.unusedSimpArgs false
namespace Go.Proofs.Ytfclelafcdcilaa.Dv
open Go Go.Proofs
def rzCfg (n0 : Nat) (l : List Ctr) (m : List RCtr) (h : List (Nat × Hn)) : WCfg := { spec := specOf l, bspec := bspecOf m, byref := byrefOf m, ro := roOf m, cod := codsR, H := hints h, n0 := n0 }
def kp (c : Cfg) (x : Rtd) : Bool := enoughB x.2.1 x.2.2 c.requests
def rinS (vs : List D) (σ : Store) : Option (Prop × D × Store) := match vs with
  | [.agg [a0, .int .i64 o, .int .i64 a], .ptr b 0 0] => match σ.obj b with
    | some (.row .own 23 [.agg cs]) => some ((∃ t : Rtd, .agg [a0, .int .i64 o, .int .i64 a] = rtD t) ∧ ∃ c : Cfg, .agg cs = c.toD, .bool (!enoughB o a (dCfg (.agg cs)).requests), σ)
    | _ => none
  | _ => none
theorem rinN (t : Rtd) (nm : Cfg) : True ∧ (D.bool !kp nm t) = D.bool !enoughB t.snd.fst t.snd.snd nm.requests ∧ (some (Ob.row St.own (23 : Nat) [nm.toD]) = none ∨ some (Ob.row St.own (23 : Nat) [nm.toD]) = some (Ob.row St.own (23 : Nat) [nm.toD]) ∧ true = true) := by
  exact ⟨trivial, rfl, .inr ⟨rfl, rfl⟩⟩
theorem rin_ref (t : Rtd) (nm : Cfg) : RefFun Try.prog 29 [rtD t, .ptr 0 0 0] [some (.row .own 23 [nm.toD])] (.bool (!kp nm t)) [some (.row .own 23 [nm.toD])] :=
  refFunW (C := rzCfg 1 [enoughC] [] []) (ctrsR_ok [enoughC] [] rfl rfl rfl rfl) [(0, true)] rfl Try.func29 (by kernel_rfl) (l := []) (by kernel_rfl) (fun x hx => by cases hx) (by kernel_rfl) (by kernel_rfl) (rinN t nm)
def rinC : RCtr := ⟨29, rinS, true, (by
  intro vs σ p r σ' h hp
  unfold rinS at h
  split at h
  · rename_i a0 o a b
    split at h
    · rename_i cs ho
      injection h with h; injection h with e1 h; injection h with e2 e3
      subst e1 e2 e3
      obtain ⟨⟨t, ht⟩, nm, hc⟩ := hp
      have hd : dCfg (.agg cs) = nm := by rw [hc]; rfl
      rw [hd]
      rw [hc] at ho
      rw [ht]
      have hz : (!enoughB o a nm.requests) = !kp nm t := by
        injection ht with ht
        simp only [List.cons.injEq, D.int.injEq, true_and, and_true] at ht
        obtain ⟨_, h2, h3⟩ := ht
        rw [h2, h3]; rfl
      rw [hz]
      have hsub : SubSt [b] σ [some (.row .own 23 [nm.toD])] := ⟨rfl, by simp, fun k id hk => by
        match k, hk with
        | 0, hk => injection hk with hk; subst hk; exact ⟨.own, 23, [nm.toD], [nm.toD], ho, rfl, .inl ⟨rfl, rfl⟩⟩⟩
      have hb : BackSt [b] [] σ [some (.row .own 23 [nm.toD])] σ := ⟨by simp, by simp, by simp, by simp, fun id _ _ => rfl, fun k id hk => by
        match k, hk with
        | 0, hk => injection hk with hk; subst hk; exact .inr ⟨.own, 23, [nm.toD], [nm.toD], rfl, ho, .inl ⟨rfl, rfl⟩⟩, fun j k hk => by simp at hk⟩
      have h0 : rid (asSrc [b]) b = some 0 := by simp [rid, asSrc]
      have hf := RefFun.frame (args := [rtD t, .ptr b 0 0]) hsub hb (by
        have e : [rtD t, .ptr b 0 0].map (ren (asSrc [b])) = [rtD t, .ptr 0 0 0] := by
          simp only [List.map_cons, List.map_nil, ren, renLeaf, h0, rtD]
          rfl
        rw [e]
        exact rin_ref t nm)
      exact hf
    · cases h
  · cases h), (by
  intro _ vs σ p r σ' h
  unfold rinS at h
  split at h
  · split at h
    · injection h with h; injection h with _ h; injection h with _ h; exact h.symm
    · cases h
  · cases h)⟩
/-- The first of another zone. -/
def rxM (nm : Cfg) : List Rtd → Nat → Int
  | [], _ => -1
  | t :: r, i => if kp nm t = false then (i : Int) else rxM nm r (i + 1)
def rxL (nm : Cfg) (all : List Rtd) : WLoop :=
  { St := List Rtd × List Rtd
    O := Int
    T := fun s => [(0, .ms 0 0 all.length all.length false), (1, .fn 29 [] [.ptr 1 0 0]), (7, .int .i64 all.length), (8, .int .i64 s.1.length)]
    S := fun s => [some (.row .own 3 (all.map rtD)), some (.row .own 23 [nm.toD])]
    ok := fun s => s.1 ++ s.2 = all ∧ all.length ≤ 1000
    μ := fun s => s.2.length
    m := fun s => rxM nm s.2 s.1.length
    src := [(0, true), (1, true)]
    outs := [{ α := Unit, is := fun o _ => o = -1, ex := .exit 0, src := [(0, true), (1, true)], T := fun _ => [], S := fun _ => [some (.row .own 3 (all.map rtD)), some (.row .own 23 [nm.toD])] },
      { α := Int, is := fun o a => o = a, ex := .ret, src := [(0, true), (1, true)], T := fun a => [(4, .int .i64 a)], S := fun _ => [some (.row .own 3 (all.map rtD)), some (.row .own 23 [nm.toD])] }] }
theorem rxR (nm : Cfg) (all : List Rtd) (s : (rxL nm all).St) (hs : (rxL nm all).ok s) : Tri Try.prog 2 19 (lp Try.f54 2) (tb ((rxL nm all).T s)) ((rxL nm all).S s) ((rxL nm all).q 2 s) := by
  obtain ⟨a, r⟩ := s
  obtain ⟨h1, h2⟩ := hs
  simp only at h1
  cases r with
  | nil =>
    refine round0 (C := rzCfg 2 [] [rinC] [(9, .f)]) (ctrsR_ok [] [rinC] rfl rfl rfl rfl) (by kernel_rfl) (by kernel_rfl) (q := decide ((↑a.length : Int) < (↑all.length : Int)) = false ∧ ∃ (a : Unit), Int.negSucc (0 : Nat) = (-1 : Int) ∧ True ∧ (some (Ob.row St.own (3 : Nat) (List.map rtD all)) = none ∨ some (Ob.row St.own (3 : Nat) (List.map rtD all)) = some (Ob.row St.own (3 : Nat) (List.map rtD all)) ∧ (List.map rtD all).all D.pure = true) ∧ (some (Ob.row St.own (23 : Nat) [nm.toD]) = none ∨ some (Ob.row St.own (23 : Nat) [nm.toD]) = some (Ob.row St.own (23 : Nat) [nm.toD]) ∧ true = true)) (by kernel_rfl) ?_
    exact ⟨by rw [← h1]; simp, (), rfl, trivial, .inr ⟨rfl, pure_rtD _⟩, .inr ⟨rfl, rfl⟩⟩
  | cons t r =>
    refine round0 (C := rzCfg 2 [] [rinC] [(9, .t)]) (ctrsR_ok [] [rinC] rfl rfl rfl rfl) (by kernel_rfl) (by kernel_rfl) (q := decide ((↑a.length : Int) < (↑all.length : Int)) = true ∧ (0 : Int) ≤ (↑a.length : Int) ∧ (↑a.length : Int) < (↑all.length : Int) ∧ ∃ (x : Int × Int × Int), (List.map rtD all)[(0 : Nat) + (↑a.length : Int).toNat]? = some (D.agg [D.int IntKind.i64 x.fst, D.int IntKind.i64 x.snd.fst, D.int IntKind.i64 x.snd.snd]) ∧ ((∃ (t : Rtd), D.agg [D.int IntKind.i64 x.fst, D.int IntKind.i64 x.snd.fst, D.int IntKind.i64 x.snd.snd] = D.agg [D.int IntKind.i64 t.fst, D.int IntKind.i64 t.snd.fst, D.int IntKind.i64 t.snd.snd]) ∧ ∃ (c : Cfg), nm.toD = D.agg [D.int IntKind.i64 c.interval, D.int IntKind.i64 c.timeout, D.int IntKind.i64 c.jitter, D.int IntKind.i64 c.rise, D.int IntKind.i64 c.fall, D.int IntKind.i64 c.panic, D.int IntKind.i64 c.over, D.int IntKind.i64 c.errors, D.int IntKind.i64 c.sweep, D.int IntKind.i64 c.hosts, D.int IntKind.i64 c.requests, D.int IntKind.i64 c.factor, D.int IntKind.i64 c.fails, D.int IntKind.i64 c.base, D.int IntKind.i64 c.eject, D.bool c.one, D.int IntKind.i64 c.slow, D.int IntKind.i64 c.drain, D.int IntKind.i64 c.hostLimit, D.int IntKind.i64 c.poolLimit, D.int IntKind.i64 c.policy, D.str c.zone, D.bool c.fallback]) ∧ ((!enoughB x.snd.fst x.snd.snd nm.requests) = true → ∃ (a_2 : Int), rxM nm (t :: r) a.length = a_2 ∧ D.int IntKind.i64 a_2 = D.int IntKind.i64 (↑a.length : Int) ∧ (some (Ob.row St.own (3 : Nat) (List.map rtD all)) = none ∨ some (Ob.row St.own (3 : Nat) (List.map rtD all)) = some (Ob.row St.own (3 : Nat) (List.map rtD all)) ∧ (List.map rtD all).all D.pure = true) ∧ (some (Ob.row St.own (23 : Nat) [nm.toD]) = none ∨ some (Ob.row St.own (23 : Nat) [nm.toD]) = some (Ob.row St.own (23 : Nat) [nm.toD]) ∧ true = true)) ∧ ((!enoughB x.snd.fst x.snd.snd nm.requests) = false → inK IntKind.i64 ((↑a.length : Int) + (1 : Int)) ∧ ∃ (s' : List Rtd × List Rtd), (s'.fst ++ s'.snd = all ∧ all.length ≤ (1000 : Nat)) ∧ s'.snd.length.succ ≤ (t :: r).length ∧ rxM nm s'.snd s'.fst.length = rxM nm (t :: r) a.length ∧ (D.ms (0 : Nat) (0 : Nat) all.length all.length false = D.ms (0 : Nat) (0 : Nat) all.length all.length false ∧ D.fn (29 : Nat) [] [D.ptr (1 : Nat) (0 : Nat) (0 : Nat)] = D.fn (29 : Nat) [] [D.ptr (1 : Nat) (0 : Nat) (0 : Nat)] ∧ D.int IntKind.i64 (↑all.length : Int) = D.int IntKind.i64 (↑all.length : Int) ∧ D.int IntKind.i64 (↑s'.fst.length : Int) = D.int IntKind.i64 ((↑a.length : Int) + (1 : Int))) ∧ (some (Ob.row St.own (3 : Nat) (List.map rtD all)) = none ∨ some (Ob.row St.own (3 : Nat) (List.map rtD all)) = some (Ob.row St.own (3 : Nat) (List.map rtD all)) ∧ (List.map rtD all).all D.pure = true) ∧ (some (Ob.row St.own (23 : Nat) [nm.toD]) = none ∨ some (Ob.row St.own (23 : Nat) [nm.toD]) = some (Ob.row St.own (23 : Nat) [nm.toD]) ∧ true = true))) (by kernel_rfl) ?_
    have hl : all.length = a.length + (r.length + 1) := by rw [← h1]; simp
    have hg : (List.map rtD all)[0 + ((a.length : Int)).toNat]? = some (rtD t) := by rw [← h1, Nat.zero_add]; exact get_midI rtD a t r
    have e : rxM nm (t :: r) a.length = if kp nm t = false then (a.length : Int) else rxM nm r (a.length + 1) := rfl
    refine ⟨decide_eq_true (by omega), by omega, by omega, t, hg, ⟨⟨t, rfl⟩, nm, rfl⟩, fun h => ⟨a.length, by rw [e, if_pos (show kp nm t = false from (Bool.not_eq_true' _).mp h)], rfl, .inr ⟨rfl, pure_rtD _⟩, .inr ⟨rfl, rfl⟩⟩, fun h => ⟨by simp only [inK]; omega, (a ++ [t], r), ⟨by rw [← h1]; simp, h2⟩, Nat.le_refl _, ?_, ?_, .inr ⟨rfl, pure_rtD _⟩, .inr ⟨rfl, rfl⟩⟩⟩
    · rw [e, if_neg (by rw [show kp nm t = true from (show enoughB t.2.1 t.2.2 nm.requests = true by simpa using h)]; decide)]
      simp
    · repeat' apply And.intro
      all_goals first
        | rfl
        | (simp; done)
noncomputable def rxCfg (nm : Cfg) (all : List Rtd) : WCfg := { rzCfg 2 [] [rinC] [] with loops := fun k => match k with | 2 => some ((rxL nm all).row [(0, true), (1, true)]) | _ => none }
theorem rxN (nm : Cfg) (all : List Rtd) (h : all.length ≤ 1000) : ∃ (b : List Rtd × List Rtd), (b.fst ++ b.snd = all ∧ all.length ≤ (1000 : Nat)) ∧ ((D.ms (0 : Nat) (0 : Nat) all.length all.length false = D.ms (0 : Nat) (0 : Nat) all.length all.length false ∧ D.fn (29 : Nat) [] [D.ptr (1 : Nat) (0 : Nat) (0 : Nat)] = D.fn (29 : Nat) [] [D.ptr (1 : Nat) (0 : Nat) (0 : Nat)] ∧ D.int IntKind.i64 (↑all.length : Int) = D.int IntKind.i64 (↑all.length : Int) ∧ D.int IntKind.i64 (↑b.fst.length : Int) = D.int IntKind.i64 (0 : Int)) ∧ (some (Ob.row St.own (3 : Nat) (List.map rtD all)) = none ∨ some (Ob.row St.own (3 : Nat) (List.map rtD all)) = some (Ob.row St.own (3 : Nat) (List.map rtD all)) ∧ (List.map rtD all).all D.pure = true) ∧ (some (Ob.row St.own (23 : Nat) [nm.toD]) = none ∨ some (Ob.row St.own (23 : Nat) [nm.toD]) = some (Ob.row St.own (23 : Nat) [nm.toD]) ∧ true = true)) ∧ (∀ (a : Unit), rxM nm b.snd b.fst.length = (-1 : Int) → D.int IntKind.i64 (rxM nm all (0 : Nat)) = D.int IntKind.i64 (-1 : Int) ∧ (some (Ob.row St.own (3 : Nat) (List.map rtD all)) = none ∨ some (Ob.row St.own (3 : Nat) (List.map rtD all)) = some (Ob.row St.own (3 : Nat) (List.map rtD all)) ∧ (List.map rtD all).all D.pure = true) ∧ (some (Ob.row St.own (23 : Nat) [nm.toD]) = none ∨ some (Ob.row St.own (23 : Nat) [nm.toD]) = some (Ob.row St.own (23 : Nat) [nm.toD]) ∧ true = true)) ∧ ∀ (a : Int), rxM nm b.snd b.fst.length = a → D.int IntKind.i64 (rxM nm all (0 : Nat)) = D.int IntKind.i64 a ∧ (some (Ob.row St.own (3 : Nat) (List.map rtD all)) = none ∨ some (Ob.row St.own (3 : Nat) (List.map rtD all)) = some (Ob.row St.own (3 : Nat) (List.map rtD all)) ∧ (List.map rtD all).all D.pure = true) ∧ (some (Ob.row St.own (23 : Nat) [nm.toD]) = none ∨ some (Ob.row St.own (23 : Nat) [nm.toD]) = some (Ob.row St.own (23 : Nat) [nm.toD]) ∧ true = true) := by
  refine ⟨([], all), ⟨rfl, h⟩, ⟨?_, .inr ⟨rfl, pure_rtD _⟩, .inr ⟨rfl, rfl⟩⟩, fun _ h => ⟨congrArg (D.int .i64) h, .inr ⟨rfl, pure_rtD _⟩, .inr ⟨rfl, rfl⟩⟩, fun a h => ⟨congrArg (D.int .i64) h, .inr ⟨rfl, pure_rtD _⟩, .inr ⟨rfl, rfl⟩⟩⟩
  repeat' apply And.intro
  all_goals rfl
theorem rx_ref (nm : Cfg) (all : List Rtd) (h : all.length ≤ 1000) : RefFun Try.prog 54 [.ms 0 0 all.length all.length false, .fn 29 [] [.ptr 1 0 0]] [some (.row .own 3 (all.map rtD)), some (.row .own 23 [nm.toD])] (.int .i64 (rxM nm all 0)) [some (.row .own 3 (all.map rtD)), some (.row .own 23 [nm.toD])] := by
  refine refFunW (C := rxCfg nm all) (ctrsR_ok [] [rinC] rfl rfl rfl rfl) [(0, true), (1, true)] rfl Try.func54 (by kernel_rfl) (l := [lp Try.f54 2]) (by kernel_rfl) (fun x hx => ?_) (by kernel_rfl) (by kernel_rfl) (rxN nm all h)
  rw [List.mem_singleton.1 hx]
  exact (rxL nm all).fits 2 [(0, true), (1, true)] (by kernel_rfl) rfl (rxR nm all)
def rxS (vs : List D) (σ : Store) : Option (Prop × D × Store) := match vs with
  | [.ms id 0 n m false, .fn 29 [] [.ptr b 0 0]] => match σ.obj id with
    | some (.row .own 3 xs) => match σ.obj b with
      | some (.row .own 23 [.agg cs]) => some (id ≠ b ∧ n = xs.length ∧ m = n ∧ n ≤ 1000 ∧ (∃ l : List Rtd, xs = l.map rtD) ∧ ∃ nm : Cfg, .agg cs = nm.toD, .int .i64 (rxM (dCfg (.agg cs)) (xs.map dRt) 0), σ)
      | _ => none
    | _ => none
  | _ => none
def rxC : RCtr := ⟨54, rxS, true, (by
  intro vs σ p r σ' h hp
  unfold rxS at h
  split at h
  · rename_i id n m b
    split at h
    · rename_i xs ho
      split at h
      · rename_i cs hb0
        injection h with h; injection h with e1 h; injection h with e2 e3
        subst e1 e2 e3
        obtain ⟨hne, hn, hm, h1, ⟨l, rfl⟩, nm, hc⟩ := hp
        have hd : dCfg (.agg cs) = nm := by rw [hc]; rfl
        rw [hd]
        rw [hc] at hb0
        rw [List.length_map] at hn
        subst hn hm
        rw [map_dRt]
        have hsub : SubSt [id, b] σ [some (.row .own 3 (l.map rtD)), some (.row .own 23 [nm.toD])] := ⟨rfl, by simpa using hne, fun k i hk => by
          match k, hk with
          | 0, hk => injection hk with hk; subst hk; exact ⟨.own, 3, _, _, ho, rfl, .inl ⟨rfl, pure_rtD _⟩⟩
          | 1, hk => injection hk with hk; subst hk; exact ⟨.own, 23, [nm.toD], [nm.toD], hb0, rfl, .inl ⟨rfl, rfl⟩⟩⟩
        have hb : BackSt [id, b] [] σ [some (.row .own 3 (l.map rtD)), some (.row .own 23 [nm.toD])] σ := ⟨by simp, by simp, by simp, by simp, fun id _ _ => rfl, fun k i hk => by
          match k, hk with
          | 0, hk => injection hk with hk; subst hk; exact .inr ⟨.own, 3, _, _, rfl, ho, .inl ⟨rfl, pure_rtD _⟩⟩
          | 1, hk => injection hk with hk; subst hk; exact .inr ⟨.own, 23, [nm.toD], [nm.toD], rfl, hb0, .inl ⟨rfl, rfl⟩⟩, fun j k hk => by simp at hk⟩
        have h0 : rid (asSrc [id, b]) id = some 0 := by
          unfold rid
          rw [asSrc_fst]
          simp [List.idxOf?_cons]
        have h1' : rid (asSrc [id, b]) b = some 1 := by
          unfold rid
          rw [asSrc_fst]
          simp [List.idxOf?_cons, hne]
        have hf := RefFun.frame (args := [.ms id 0 l.length l.length false, .fn 29 [] [.ptr b 0 0]]) hsub hb (by
          have e : [D.ms id 0 l.length l.length false, .fn 29 [] [.ptr b 0 0]].map (ren (asSrc [id, b])) = [.ms 0 0 l.length l.length false, .fn 29 [] [.ptr 1 0 0]] := by
            simp only [List.map_cons, List.map_nil, ren, renLeaf, h0, h1']
          rw [e]
          exact rx_ref nm l h1)
        exact hf
      · cases h
    · cases h
  · cases h), (by
  intro _ vs σ p r σ' h
  unfold rxS at h
  split at h
  · split at h
    · split at h
      · injection h with h; injection h with _ h; injection h with _ h; exact h.symm
      · cases h
    · cases h
  · cases h)⟩
/-- Kept so far; what stands between (rubbish); what is still to be seen. -/
def rfL (nm : Cfg) (N : Nat) : WLoop :=
  { St := List Rtd × List Rtd × List Rtd
    O := List Rtd
    T := fun s => [(0, .ms 0 0 N N false), (1, .fn 29 [] [.ptr 1 0 0]), (5, .int .i64 s.1.length), (6, .int .i64 (s.1.length + s.2.1.length : Nat))]
    S := fun s => [some (.row .own 3 ((s.1 ++ s.2.1 ++ s.2.2).map rtD)), some (.row .own 23 [nm.toD])]
    ok := fun s => (s.1 ++ s.2.1 ++ s.2.2).length = N ∧ N ≤ 1000 ∧ s.2.1 ≠ []
    μ := fun s => s.2.2.length
    m := fun s => s.1 ++ s.2.2.filter fun t => kp nm t
    src := [(0, true), (1, true)]
    outs := [{ α := List Rtd × List Rtd, is := fun o a => o = a.1 ∧ (a.1 ++ a.2).length = N, ex := .exit 0, src := [(0, true), (1, true)], T := fun a => [(0, .ms 0 0 N N false), (5, .int .i64 a.1.length)], S := fun a => [some (.row .own 3 ((a.1 ++ a.2).map rtD)), some (.row .own 23 [nm.toD])] }] }
theorem rfR (nm : Cfg) (N : Nat) (s : (rfL nm N).St) (hs : (rfL nm N).ok s) : Tri Try.prog 2 42 (lp Try.f27 5) (tb ((rfL nm N).T s)) ((rfL nm N).S s) ((rfL nm N).q 2 s) := by
  obtain ⟨a, g, r⟩ := s
  obtain ⟨h1, h2, h3⟩ := hs
  cases r with
  | nil =>
    refine round0 (C := rzCfg 2 [] [rinC] [(19, .f)]) (ctrsR_ok [] [rinC] rfl rfl rfl rfl) (by kernel_rfl) (by kernel_rfl) (q := decide ((↑(a.length + g.length) : Int) < (↑N : Int)) = false ∧ ∃ (a_1 : List Rtd × List Rtd), (a ++ [] = a_1.fst ∧ (a_1.fst ++ a_1.snd).length = N) ∧ (D.ms (0 : Nat) (0 : Nat) N N false = D.ms (0 : Nat) (0 : Nat) N N false ∧ D.int IntKind.i64 (↑a_1.fst.length : Int) = D.int IntKind.i64 (↑a.length : Int)) ∧ (some (Ob.row St.own (3 : Nat) (List.map rtD (a_1.fst ++ a_1.snd))) = none ∨ some (Ob.row St.own (3 : Nat) (List.map rtD (a_1.fst ++ a_1.snd))) = some (Ob.row St.own (3 : Nat) (List.map rtD (a ++ g ++ []))) ∧ (List.map rtD (a ++ g ++ [])).all D.pure = true) ∧ (some (Ob.row St.own (23 : Nat) [nm.toD]) = none ∨ some (Ob.row St.own (23 : Nat) [nm.toD]) = some (Ob.row St.own (23 : Nat) [nm.toD]) ∧ true = true)) (by kernel_rfl) ?_
    exact ⟨decide_eq_false (by simp at h1; omega), (a, g), ⟨by simp, by simpa using h1⟩, ⟨rfl, rfl⟩, .inr ⟨by simp, pure_rtD _⟩, .inr ⟨rfl, rfl⟩⟩
  | cons t r =>
    refine round0 (C := rzCfg 2 [] [rinC] [(19, .t)]) (ctrsR_ok [] [rinC] rfl rfl rfl rfl) (by kernel_rfl) (by kernel_rfl) (q := decide ((↑(a.length + g.length) : Int) < (↑N : Int)) = true ∧ (0 : Int) ≤ (↑(a.length + g.length) : Int) ∧ (↑(a.length + g.length) : Int) < (↑N : Int) ∧ ∃ (x : Int × Int × Int), (List.map rtD (a ++ g ++ t :: r))[(0 : Nat) + (↑(a.length + g.length) : Int).toNat]? = some (D.agg [D.int IntKind.i64 x.fst, D.int IntKind.i64 x.snd.fst, D.int IntKind.i64 x.snd.snd]) ∧ ((∃ (t : Rtd), D.agg [D.int IntKind.i64 x.fst, D.int IntKind.i64 x.snd.fst, D.int IntKind.i64 x.snd.snd] = D.agg [D.int IntKind.i64 t.fst, D.int IntKind.i64 t.snd.fst, D.int IntKind.i64 t.snd.snd]) ∧ ∃ (c : Cfg), nm.toD = D.agg [D.int IntKind.i64 c.interval, D.int IntKind.i64 c.timeout, D.int IntKind.i64 c.jitter, D.int IntKind.i64 c.rise, D.int IntKind.i64 c.fall, D.int IntKind.i64 c.panic, D.int IntKind.i64 c.over, D.int IntKind.i64 c.errors, D.int IntKind.i64 c.sweep, D.int IntKind.i64 c.hosts, D.int IntKind.i64 c.requests, D.int IntKind.i64 c.factor, D.int IntKind.i64 c.fails, D.int IntKind.i64 c.base, D.int IntKind.i64 c.eject, D.bool c.one, D.int IntKind.i64 c.slow, D.int IntKind.i64 c.drain, D.int IntKind.i64 c.hostLimit, D.int IntKind.i64 c.poolLimit, D.int IntKind.i64 c.policy, D.str c.zone, D.bool c.fallback]) ∧ ((!!enoughB x.snd.fst x.snd.snd nm.requests) = true → (0 : Int) ≤ (↑a.length : Int) ∧ (↑a.length : Int) < (↑N : Int) ∧ ∃ (x_1 : Int × Int × Int), (List.map rtD (a ++ g ++ t :: r))[(0 : Nat) + (↑a.length : Int).toNat]? = some (D.agg [D.int IntKind.i64 x_1.fst, D.int IntKind.i64 x_1.snd.fst, D.int IntKind.i64 x_1.snd.snd]) ∧ inK IntKind.i64 ((↑a.length : Int) + (1 : Int)) ∧ inK IntKind.i64 ((↑(a.length + g.length) : Int) + (1 : Int)) ∧ ∃ (s' : List Rtd × List Rtd × List Rtd), ((s'.fst ++ s'.snd.fst ++ s'.snd.snd).length = N ∧ N ≤ (1000 : Nat) ∧ (s'.snd.fst = [] → False)) ∧ s'.snd.snd.length.succ ≤ (t :: r).length ∧ s'.fst ++ List.filter (fun (t : Rtd) => kp nm t) s'.snd.snd = a ++ List.filter (fun (t : Rtd) => kp nm t) (t :: r) ∧ (D.ms (0 : Nat) (0 : Nat) N N false = D.ms (0 : Nat) (0 : Nat) N N false ∧ D.fn (29 : Nat) [] [D.ptr (1 : Nat) (0 : Nat) (0 : Nat)] = D.fn (29 : Nat) [] [D.ptr (1 : Nat) (0 : Nat) (0 : Nat)] ∧ D.int IntKind.i64 (↑s'.fst.length : Int) = D.int IntKind.i64 ((↑a.length : Int) + (1 : Int)) ∧ D.int IntKind.i64 (↑(s'.fst.length + s'.snd.fst.length) : Int) = D.int IntKind.i64 ((↑(a.length + g.length) : Int) + (1 : Int))) ∧ (some (Ob.row St.own (3 : Nat) (List.map rtD (s'.fst ++ s'.snd.fst ++ s'.snd.snd))) = none ∨ some (Ob.row St.own (3 : Nat) (List.map rtD (s'.fst ++ s'.snd.fst ++ s'.snd.snd))) = some (Ob.row St.own (3 : Nat) ((List.map rtD (a ++ g ++ t :: r)).set ((0 : Nat) + (↑a.length : Int).toNat) (D.agg [D.int IntKind.i64 x.fst, D.int IntKind.i64 x.snd.fst, D.int IntKind.i64 x.snd.snd]))) ∧ ((List.map rtD (a ++ g ++ t :: r)).set ((0 : Nat) + (↑a.length : Int).toNat) (D.agg [D.int IntKind.i64 x.fst, D.int IntKind.i64 x.snd.fst, D.int IntKind.i64 x.snd.snd])).all D.pure = true) ∧ (some (Ob.row St.own (23 : Nat) [nm.toD]) = none ∨ some (Ob.row St.own (23 : Nat) [nm.toD]) = some (Ob.row St.own (23 : Nat) [nm.toD]) ∧ true = true)) ∧ ((!!enoughB x.snd.fst x.snd.snd nm.requests) = false → inK IntKind.i64 ((↑(a.length + g.length) : Int) + (1 : Int)) ∧ ∃ (s' : List Rtd × List Rtd × List Rtd), ((s'.fst ++ s'.snd.fst ++ s'.snd.snd).length = N ∧ N ≤ (1000 : Nat) ∧ (s'.snd.fst = [] → False)) ∧ s'.snd.snd.length.succ ≤ (t :: r).length ∧ s'.fst ++ List.filter (fun (t : Rtd) => kp nm t) s'.snd.snd = a ++ List.filter (fun (t : Rtd) => kp nm t) (t :: r) ∧ (D.ms (0 : Nat) (0 : Nat) N N false = D.ms (0 : Nat) (0 : Nat) N N false ∧ D.fn (29 : Nat) [] [D.ptr (1 : Nat) (0 : Nat) (0 : Nat)] = D.fn (29 : Nat) [] [D.ptr (1 : Nat) (0 : Nat) (0 : Nat)] ∧ D.int IntKind.i64 (↑s'.fst.length : Int) = D.int IntKind.i64 (↑a.length : Int) ∧ D.int IntKind.i64 (↑(s'.fst.length + s'.snd.fst.length) : Int) = D.int IntKind.i64 ((↑(a.length + g.length) : Int) + (1 : Int))) ∧ (some (Ob.row St.own (3 : Nat) (List.map rtD (s'.fst ++ s'.snd.fst ++ s'.snd.snd))) = none ∨ some (Ob.row St.own (3 : Nat) (List.map rtD (s'.fst ++ s'.snd.fst ++ s'.snd.snd))) = some (Ob.row St.own (3 : Nat) (List.map rtD (a ++ g ++ t :: r))) ∧ (List.map rtD (a ++ g ++ t :: r)).all D.pure = true) ∧ (some (Ob.row St.own (23 : Nat) [nm.toD]) = none ∨ some (Ob.row St.own (23 : Nat) [nm.toD]) = some (Ob.row St.own (23 : Nat) [nm.toD]) ∧ true = true))) (by kernel_rfl) ?_
    simp only at h1 h3
    obtain ⟨x0, g', rfl⟩ : ∃ x0 g', g = x0 :: g' := by
      cases g with
      | nil => exact absurd rfl h3
      | cons x0 g' => exact ⟨x0, g', rfl⟩
    have hN : a.length + (g'.length + 1) + (r.length + 1) = N := by rw [← h1]; simp; omega
    have hlg : (x0 :: g').length = g'.length + 1 := rfl
    have hg : (List.map rtD (a ++ x0 :: g' ++ t :: r))[0 + (((a.length + (x0 :: g').length : Nat) : Int)).toNat]? = some (rtD t) := by
      rw [Nat.zero_add, Int.toNat_natCast, ← List.length_append]; exact get_mid rtD (a ++ x0 :: g') t r
    have hx : (List.map rtD (a ++ x0 :: g' ++ t :: r))[0 + ((a.length : Int)).toNat]? = some (rtD x0) := by
      rw [Nat.zero_add, Int.toNat_natCast, List.append_assoc]; exact get_mid rtD a x0 (g' ++ t :: r)
    have hset : (List.map rtD (a ++ x0 :: g' ++ t :: r)).set (0 + ((a.length : Int)).toNat) (rtD t) = List.map rtD (a ++ [t] ++ (g' ++ [t]) ++ r) := by
      rw [Nat.zero_add, Int.toNat_natCast]; simp [List.set_append]
    refine ⟨decide_eq_true (by omega), by omega, by omega, t, hg, ⟨⟨t, rfl⟩, nm, rfl⟩, fun h => ⟨by omega, by omega, x0, hx, by simp only [inK]; omega, by simp only [inK]; omega, (a ++ [t], g' ++ [t], r), ⟨by simp; omega, h2, by simp⟩, Nat.le_refl _, ?_, ?_, .inr ⟨congrArg (fun z => some (Ob.row .own 3 z)) hset.symm, ?_⟩, .inr ⟨rfl, rfl⟩⟩, fun h => ⟨by simp only [inK]; omega, (a, x0 :: g' ++ [t], r), ⟨by simp; omega, h2, by simp⟩, Nat.le_refl _, ?_, ?_, .inr ⟨by simp, pure_rtD _⟩, .inr ⟨rfl, rfl⟩⟩⟩
    · have hk : kp nm t = true := (show enoughB t.2.1 t.2.2 nm.requests = true by simpa using h)
      show (a ++ [t]) ++ List.filter (fun t => kp nm t) r = a ++ List.filter (fun t => kp nm t) (t :: r)
      rw [List.filter_cons_of_pos (by exact hk)]; simp
    · refine ⟨rfl, rfl, by simp, by simp; omega⟩
    · exact hset ▸ pure_rtD _
    · have hk : kp nm t = false := (show enoughB t.2.1 t.2.2 nm.requests = false by simpa using h)
      show a ++ List.filter (fun t => kp nm t) r = a ++ List.filter (fun t => kp nm t) (t :: r)
      rw [List.filter_cons_of_neg (by rw [hk]; decide)]
    · refine ⟨rfl, rfl, rfl, by simp; omega⟩
def zRt : Rtd := (0, 0, 0)
def keptR (nm : Cfg) (all : List Rtd) : List Rtd := all.filter fun t => kp nm t
def rfOut (nm : Cfg) (all : List Rtd) : List Rtd := keptR nm all ++ List.replicate (all.length - (keptR nm all).length) zRt
theorem rx_split (nm : Cfg) : ∀ (all : List Rtd) (i : Nat), (rxM nm all i = -1 ∧ keptR nm all = all) ∨ ∃ a x r, all = a ++ x :: r ∧ keptR nm a = a ∧ kp nm x = false ∧ rxM nm all i = ((i + a.length : Nat) : Int)
  | [], i => .inl ⟨rfl, rfl⟩
  | t :: r, i => by
    by_cases h : kp nm t = true
    · have e : ∀ l, keptR nm (t :: l) = t :: keptR nm l := fun l => by unfold keptR; rw [List.filter_cons_of_pos (by simp [h])]
      have e2 : rxM nm (t :: r) i = rxM nm r (i + 1) := by rw [rxM]; exact if_neg (by rw [h]; decide)
      rcases rx_split nm r (i + 1) with ⟨h1, h2⟩ | ⟨a, x, r', h1, h2, h3, h4⟩
      · exact .inl ⟨e2.trans h1, by rw [e, h2]⟩
      · refine .inr ⟨t :: a, x, r', by rw [h1]; rfl, by rw [e, h2], h3, ?_⟩
        rw [e2, h4, List.length_cons]
        congr 1
        omega
    · have h : kp nm t = false := by simpa using h
      exact .inr ⟨[], t, r, rfl, rfl, h, by rw [rxM, if_pos h]; simp⟩
theorem zRt_D (n : Nat) : List.replicate n (rtD zRt) = (List.replicate n zRt).map rtD := (List.map_replicate ..).symm
noncomputable def rfCfg (nm : Cfg) (N : Nat) : WCfg := { rzCfg 2 [] [rinC, rxC] [(9, .n)] with loops := fun k => match k with | 5 => some ((rfL nm N).row [(0, true), (1, true)]) | _ => none }
theorem rfN (nm : Cfg) (all : List Rtd) (h : all.length ≤ 1000) : (((0 : Nat) = (1 : Nat) → False) ∧ all.length = (List.map rtD all).length ∧ all.length = all.length ∧ all.length ≤ (1000 : Nat) ∧ (∃ (l : List Rtd), List.map rtD all = List.map rtD l) ∧ ∃ (nm_1 : Cfg), nm.toD = D.agg [D.int IntKind.i64 nm_1.interval, D.int IntKind.i64 nm_1.timeout, D.int IntKind.i64 nm_1.jitter, D.int IntKind.i64 nm_1.rise, D.int IntKind.i64 nm_1.fall, D.int IntKind.i64 nm_1.panic, D.int IntKind.i64 nm_1.over, D.int IntKind.i64 nm_1.errors, D.int IntKind.i64 nm_1.sweep, D.int IntKind.i64 nm_1.hosts, D.int IntKind.i64 nm_1.requests, D.int IntKind.i64 nm_1.factor, D.int IntKind.i64 nm_1.fails, D.int IntKind.i64 nm_1.base, D.int IntKind.i64 nm_1.eject, D.bool nm_1.one, D.int IntKind.i64 nm_1.slow, D.int IntKind.i64 nm_1.drain, D.int IntKind.i64 nm_1.hostLimit, D.int IntKind.i64 nm_1.poolLimit, D.int IntKind.i64 nm_1.policy, D.str nm_1.zone, D.bool nm_1.fallback]) ∧ (decide (rxM nm (List.map dRt (List.map rtD all)) (0 : Nat) = (-1 : Int)) = true → D.ms (0 : Nat) (0 : Nat) (keptR nm all).length all.length false = D.ms (0 : Nat) (0 : Nat) all.length all.length false ∧ (some (Ob.row St.own (3 : Nat) (List.map rtD (rfOut nm all))) = none ∨ some (Ob.row St.own (3 : Nat) (List.map rtD (rfOut nm all))) = some (Ob.row St.own (3 : Nat) (List.map rtD all)) ∧ (List.map rtD all).all D.pure = true) ∧ (some (Ob.row St.own (23 : Nat) [nm.toD]) = none ∨ some (Ob.row St.own (23 : Nat) [nm.toD]) = some (Ob.row St.own (23 : Nat) [nm.toD]) ∧ true = true)) ∧ (decide (rxM nm (List.map dRt (List.map rtD all)) (0 : Nat) = (-1 : Int)) = false → inK IntKind.i64 (rxM nm (List.map dRt (List.map rtD all)) (0 : Nat) + (1 : Int)) ∧ ∃ (b : List Rtd × List Rtd × List Rtd), ((b.fst ++ b.snd.fst ++ b.snd.snd).length = all.length ∧ all.length ≤ (1000 : Nat) ∧ (b.snd.fst = [] → False)) ∧ ((D.ms (0 : Nat) (0 : Nat) all.length all.length false = D.ms (0 : Nat) (0 : Nat) all.length all.length false ∧ D.fn (29 : Nat) [] [D.ptr (1 : Nat) (0 : Nat) (0 : Nat)] = D.fn (29 : Nat) [] [D.ptr (1 : Nat) (0 : Nat) (0 : Nat)] ∧ D.int IntKind.i64 (↑b.fst.length : Int) = D.int IntKind.i64 (rxM nm (List.map dRt (List.map rtD all)) (0 : Nat)) ∧ D.int IntKind.i64 (↑(b.fst.length + b.snd.fst.length) : Int) = D.int IntKind.i64 (rxM nm (List.map dRt (List.map rtD all)) (0 : Nat) + (1 : Int))) ∧ (some (Ob.row St.own (3 : Nat) (List.map rtD (b.fst ++ b.snd.fst ++ b.snd.snd))) = none ∨ some (Ob.row St.own (3 : Nat) (List.map rtD (b.fst ++ b.snd.fst ++ b.snd.snd))) = some (Ob.row St.own (3 : Nat) (List.map rtD all)) ∧ (List.map rtD all).all D.pure = true) ∧ (some (Ob.row St.own (23 : Nat) [nm.toD]) = none ∨ some (Ob.row St.own (23 : Nat) [nm.toD]) = some (Ob.row St.own (23 : Nat) [nm.toD]) ∧ true = true)) ∧ ∀ (a : List Rtd × List Rtd), b.fst ++ List.filter (fun (t : Rtd) => kp nm t) b.snd.snd = a.fst ∧ (a.fst ++ a.snd).length = all.length → (0 : Int) ≤ (↑a.fst.length : Int) ∧ (↑a.fst.length : Int).toNat ≤ all.length ∧ all.length ≤ all.length ∧ (0 : Nat) + (↑a.fst.length : Int).toNat + (all.length - (↑a.fst.length : Int).toNat) ≤ (List.map rtD (a.fst ++ a.snd)).length ∧ (0 : Int) ≤ (↑a.fst.length : Int) ∧ (0 : Nat) ≤ (↑a.fst.length : Int).toNat ∧ (↑a.fst.length : Int).toNat ≤ all.length ∧ D.ms (0 : Nat) (0 : Nat) (keptR nm all).length all.length false = D.ms (0 : Nat) (0 : Nat) ((↑a.fst.length : Int).toNat - (0 : Nat)) (all.length - (0 : Nat)) false ∧ (some (Ob.row St.own (3 : Nat) (List.map rtD (rfOut nm all))) = none ∨ some (Ob.row St.own (3 : Nat) (List.map rtD (rfOut nm all))) = some (Ob.row St.own (3 : Nat) (List.take ((0 : Nat) + (↑a.fst.length : Int).toNat) (List.map rtD (a.fst ++ a.snd)) ++ List.replicate (all.length - (↑a.fst.length : Int).toNat) (D.agg [D.int IntKind.i64 (0 : Int), D.int IntKind.i64 (0 : Int), D.int IntKind.i64 (0 : Int)]) ++ List.drop ((0 : Nat) + (↑a.fst.length : Int).toNat + (all.length - (↑a.fst.length : Int).toNat)) (List.map rtD (a.fst ++ a.snd)))) ∧ (List.take ((0 : Nat) + (↑a.fst.length : Int).toNat) (List.map rtD (a.fst ++ a.snd)) ++ List.replicate (all.length - (↑a.fst.length : Int).toNat) (D.agg [D.int IntKind.i64 (0 : Int), D.int IntKind.i64 (0 : Int), D.int IntKind.i64 (0 : Int)]) ++ List.drop ((0 : Nat) + (↑a.fst.length : Int).toNat + (all.length - (↑a.fst.length : Int).toNat)) (List.map rtD (a.fst ++ a.snd))).all D.pure = true) ∧ (some (Ob.row St.own (23 : Nat) [nm.toD]) = none ∨ some (Ob.row St.own (23 : Nat) [nm.toD]) = some (Ob.row St.own (23 : Nat) [nm.toD]) ∧ true = true)) := by
  rw [map_dRt]
  rcases rx_split nm all 0 with ⟨h1, h2⟩ | ⟨a, x, r, rfl, h2, h3, h4⟩
  · rw [h1]
    have hd : rfOut nm all = all := by unfold rfOut; rw [h2]; simp
    exact ⟨⟨by omega, by simp, rfl, h, ⟨all, rfl⟩, nm, rfl⟩, fun _ => ⟨by rw [h2], .inr ⟨by rw [hd], pure_rtD _⟩, .inr ⟨rfl, rfl⟩⟩, fun h => by simp at h⟩
  · rw [h4, Nat.zero_add]
    have hl : a.length + (r.length + 1) ≤ 1000 := by simpa using h
    refine ⟨⟨by omega, by simp, rfl, h, ⟨_, rfl⟩, nm, rfl⟩, fun h => by have := of_decide_eq_true h; omega, fun _ => ⟨by simp only [inK]; omega, (a, [x], r), ⟨by simp, h, by simp⟩, ⟨?_, .inr ⟨by simp, pure_rtD _⟩, .inr ⟨rfl, rfl⟩⟩, fun b hb => ?_⟩⟩
    · repeat' apply And.intro
      all_goals first
        | rfl
        | (simp; done)
    obtain ⟨k, g⟩ := b
    obtain ⟨hb1, hb2⟩ := hb
    simp only at hb1 hb2 ⊢
    have hk : keptR nm (a ++ x :: r) = k := by
      rw [← hb1]
      unfold keptR at h2 ⊢
      rw [List.filter_append, h2, List.filter_cons_of_neg (by simpa using h3)]
    have hkg : k.length + g.length = a.length + (r.length + 1) := by simpa using hb2
    have hal : (a ++ x :: r).length = a.length + (r.length + 1) := by simp
    have hz : D.agg [D.int .i64 0, D.int .i64 0, D.int .i64 0] = rtD zRt := rfl
    have hrow : List.take (0 + ((k.length : Int)).toNat) (List.map rtD (k ++ g)) ++ List.replicate ((a ++ x :: r).length - ((k.length : Int)).toNat) (rtD zRt) ++ List.drop (0 + ((k.length : Int)).toNat + ((a ++ x :: r).length - ((k.length : Int)).toNat)) (List.map rtD (k ++ g)) = List.map rtD (rfOut nm (a ++ x :: r)) := by
      rw [Int.toNat_natCast, Nat.zero_add]
      unfold rfOut
      rw [hk, List.map_append, List.map_append, List.take_left' (List.length_map ..), List.map_replicate, List.drop_eq_nil_of_le (by simp; omega), List.append_nil]
    rw [hz, hrow, hk, Int.toNat_natCast]
    refine ⟨by omega, by omega, Nat.le_refl _, by rw [List.length_map, hb2]; omega, by omega, by omega, by omega, by simp, .inr ⟨by trivial, pure_rtD _⟩, .inr ⟨by trivial, by trivial⟩⟩
theorem idx_old {fp nw : List Nat} {n k id : Nat} (hk : fp[k]? = some id) (hnd : fp.Nodup) (hid : id < n) (hs : fp.length < 1000000) : (backL fp nw n).idxOf? k = some id := by
  rw [List.idxOf?_eq_some_iff]
  have hl : (backL fp nw n).length = n + nw.length := by simp [backL]
  obtain ⟨hkl, hke⟩ := List.getElem?_eq_some_iff.1 hk
  have hat : ∀ j, j < n → (backL fp nw n)[j]? = some ((fp.idxOf? j).getD (1000000 + j)) := fun j hj => backL_old hj
  refine ⟨by rw [hl]; omega, ?_, fun j hj => ?_⟩
  · have h := hat id hid
    rw [List.getElem?_eq_getElem (by rw [hl]; omega)] at h
    injection h with h
    rw [h]
    have : fp.idxOf? id = some k := by
      rw [List.idxOf?_eq_some_iff]
      refine ⟨hkl, by simpa using hke, fun j hj => ?_⟩
      intro he
      have := (List.getElem_inj (h₀ := by omega) (h₁ := hkl) hnd).1 (he.trans hke.symm)
      omega
    rw [this]
    simp
  · have h := hat j (by omega)
    rw [List.getElem?_eq_getElem (by rw [hl]; omega)] at h
    injection h with h
    rw [h]
    cases hi : fp.idxOf? j with
    | none => simp only [Option.getD_none]; simp; omega
    | some k' =>
      simp only [Option.getD_some]
      have h1 := idx_get hi
      intro he
      subst he
      rw [hk] at h1
      injection h1 with h1
      omega
/-- A row is written anew, beside something that is only read. -/
theorem frame2r {f : FuncId} {args args0 : List D} {σ : Store} {id b esz n m c : Nat} {xs ys : List D} {nm : D} (hne : id ≠ b) (ho : σ.obj id = some (.row .own esz xs)) (hb0 : σ.obj b = some (.row .own 23 [nm])) (hx : xs.all D.pure = true) (hy : ys.all D.pure = true) (hm : nm.pure = true)
    (ha : args.map (ren (asSrc [id, b])) = args0) (h : RefFun Try.prog f args0 [some (.row .own esz xs), some (.row .own 23 [nm])] (.ms 0 c n m false) [some (.row .own esz ys), some (.row .own 23 [nm])]) :
    RefFun Try.prog f args σ (.ms id c n m false) (σ.put id (some (.row .own esz ys))) := by
  have hlt := obj_lt ho
  have hm1 : [nm].all D.pure = true := by simp [hm]
  have hsub : SubSt [id, b] σ [some (.row .own esz xs), some (.row .own 23 [nm])] := ⟨rfl, by simpa using hne, fun k i hk => by
    match k, hk with
    | 0, hk => injection hk with hk; subst hk; exact ⟨.own, esz, _, _, ho, rfl, .inl ⟨rfl, hx⟩⟩
    | 1, hk => injection hk with hk; subst hk; exact ⟨.own, 23, [nm], [nm], hb0, rfl, .inl ⟨rfl, hm1⟩⟩⟩
  have hb : BackSt [id, b] [] σ [some (.row .own esz ys), some (.row .own 23 [nm])] (σ.put id (some (.row .own esz ys))) := ⟨by simp [length_put], by simp, by simp, by simp, fun i _ hi => obj_put_ne (by simp at hi; exact hi.1) _, fun k i hk => by
    match k, hk with
    | 0, hk => injection hk with hk; subst hk; exact .inr ⟨.own, esz, _, _, rfl, obj_put_same hlt _, .inl ⟨rfl, hy⟩⟩
    | 1, hk => injection hk with hk; subst hk; exact .inr ⟨.own, 23, [nm], [nm], rfl, (obj_put_ne (fun h => hne h.symm) _).trans hb0, .inl ⟨rfl, hm1⟩⟩, fun j k hk => by simp at hk⟩
  have hf := RefFun.frame (args := args) hsub hb (by rw [ha]; exact h)
  have e4 : ren (asSrc (backL [id, b] [] σ.length)) (.ms 0 c n m false) = .ms id c n m false := by
    have : rid (asSrc (backL [id, b] [] σ.length)) 0 = some id := by
      unfold rid
      rw [asSrc_fst]
      exact idx_old rfl (by simpa using hne) hlt (by simp)
    simp only [ren, renLeaf, this]
  rw [e4] at hf
  exact hf
theorem ren2 {id b : Nat} (hne : id ≠ b) (x y c : Nat) (ex : Bool) (f : FuncId) : [D.ms id c x y ex, .fn f [] [.ptr b 0 0]].map (ren (asSrc [id, b])) = [.ms 0 c x y ex, .fn f [] [.ptr 1 0 0]] := by
  have h0 : rid (asSrc [id, b]) id = some 0 := by
    unfold rid
    rw [asSrc_fst]
    simp [List.idxOf?_cons]
  have h1' : rid (asSrc [id, b]) b = some 1 := by
    unfold rid
    rw [asSrc_fst]
    simp [List.idxOf?_cons, hne]
  simp only [List.map_cons, List.map_nil, ren, renLeaf, h0, h1']
theorem rf_ref (nm : Cfg) (all : List Rtd) (h : all.length ≤ 1000) : RefFun Try.prog 27 [.ms 0 0 all.length all.length false, .fn 29 [] [.ptr 1 0 0]] [some (.row .own 3 (all.map rtD)), some (.row .own 23 [nm.toD])] (.ms 0 0 (keptR nm all).length all.length false) [some (.row .own 3 ((rfOut nm all).map rtD)), some (.row .own 23 [nm.toD])] := by
  refine refFunW (C := rfCfg nm all.length) (ctrsR_ok [] [rinC, rxC] rfl rfl rfl rfl) [(0, true), (1, true)] rfl Try.func27 (by kernel_rfl) (l := [lp Try.f27 5]) (by kernel_rfl) (fun x hx => ?_) (by kernel_rfl) (by kernel_rfl) (rfN nm all h)
  rw [List.mem_singleton.1 hx]
  exact (rfL nm all.length).fits 5 [(0, true), (1, true)] (by kernel_rfl) rfl fun s hs => rfR nm all.length s hs
theorem rf0_ref (nm : Cfg) : RefFun Try.prog 27 [.sl true [], .fn 29 [] [.ptr 0 0 0]] [some (.row .own 23 [nm.toD])] (.sl true []) [some (.row .own 23 [nm.toD])] :=
  refFun_run goodM2 primM2 mix 60 (by kernel_rfl)
def rfS (vs : List D) (σ : Store) : Option (Prop × D × Store) := match vs with
  | [.ms id 0 n m false, .fn 29 [] [.ptr b 0 0]] => match σ.obj id with
    | some (.row .own 3 xs) => match σ.obj b with
      | some (.row .own 23 [.agg cs]) => some (id ≠ b ∧ n = xs.length ∧ m = n ∧ n ≤ 1000 ∧ (∃ l : List Rtd, xs = l.map rtD) ∧ ∃ nm : Cfg, .agg cs = nm.toD, .ms id 0 (keptR (dCfg (.agg cs)) (xs.map dRt)).length n false, σ.put id (some (.row .own 3 ((rfOut (dCfg (.agg cs)) (xs.map dRt)).map rtD))))
      | _ => none
    | _ => none
  | [.sl true [], .fn 29 [] [.ptr b 0 0]] => match σ.obj b with
    | some (.row .own 23 [.agg cs]) => some (∃ nm : Cfg, .agg cs = nm.toD, .sl true [], σ)
    | _ => none
  | _ => none
def rfC : RCtr := ⟨27, rfS, false, (by
  intro vs σ p r σ' h hp
  unfold rfS at h
  split at h
  · rename_i id n m b
    split at h
    · rename_i xs ho
      split at h
      · rename_i cs hb0
        injection h with h; injection h with e1 h; injection h with e2 e3
        subst e1 e2 e3
        obtain ⟨hne, hn, hm, h1, ⟨l, rfl⟩, nm, hc⟩ := hp
        have hd : dCfg (.agg cs) = nm := by rw [hc]; rfl
        rw [hd]
        rw [hc] at hb0
        rw [List.length_map] at hn
        subst hn hm
        rw [map_dRt]
        exact frame2r hne ho hb0 (pure_rtD _) (pure_rtD _) rfl (ren2 hne _ _ _ _ _) (rf_ref nm l h1)
      · cases h
    · cases h
  · rename_i b
    split at h
    · rename_i cs hb0
      injection h with h; injection h with e1 h; injection h with e2 e3
      subst e1 e2 e3
      obtain ⟨nm, hc⟩ := hp
      rw [hc] at hb0
      have hsub : SubSt [b] σ [some (.row .own 23 [nm.toD])] := ⟨rfl, by simp, fun k id hk => by
        match k, hk with
        | 0, hk => injection hk with hk; subst hk; exact ⟨.own, 23, [nm.toD], [nm.toD], hb0, rfl, .inl ⟨rfl, rfl⟩⟩⟩
      have hb : BackSt [b] [] σ [some (.row .own 23 [nm.toD])] σ := ⟨by simp, by simp, by simp, by simp, fun id _ _ => rfl, fun k id hk => by
        match k, hk with
        | 0, hk => injection hk with hk; subst hk; exact .inr ⟨.own, 23, [nm.toD], [nm.toD], rfl, hb0, .inl ⟨rfl, rfl⟩⟩, fun j k hk => by simp at hk⟩
      have h0 : rid (asSrc [b]) b = some 0 := by simp [rid, asSrc]
      exact RefFun.frame (args := [.sl true [], .fn 29 [] [.ptr b 0 0]]) hsub hb (by
        have e : [D.sl true [], .fn 29 [] [.ptr b 0 0]].map (ren (asSrc [b])) = [.sl true [], .fn 29 [] [.ptr 0 0 0]] := by
          simp only [List.map_cons, List.map_nil, ren, renLeaf, h0]
        rw [e]
        exact rf0_ref nm)
    · cases h
  · cases h), (fun h => by cases h)⟩
end Go.Proofs.Ytfclelafcdcilaa.Dv
