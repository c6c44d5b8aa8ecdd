/- load.Shares: how much falls to each priority. -/
import Derived.Test.YtgibpomhiilehaaNB
import Derived.Test.YtgibpomhiilehaaH1
import Derived.Test.YtgibpomhiilehaaNT
set_option linter.unusedVariables false
set_option linter.unusedSimpArgs false
namespace Go.Proofs.Ytgibpomhiilehaa.Dv
open Go Go.Proofs
/-- The parts, one by one, of what is left. -/
def pf (c : Cfg) (a : List Cnt) : List Int := a.foldl (fun acc x => acc ++ [min (partM c x.2.2 x.2.1) (100 - acc.sum)]) []
theorem pf_snoc (c : Cfg) (a : List Cnt) (x : Cnt) : pf c (a ++ [x]) = pf c a ++ [min (partM c x.2.2 x.2.1) (100 - (pf c a).sum)] := by unfold pf; rw [List.foldl_append]; rfl
theorem pf_len (c : Cfg) (a : List Cnt) : (pf c a).length = a.length := by
  rw [← List.reverse_reverse a]
  generalize a.reverse = m
  induction m with
  | nil => rfl
  | cons x m ih => rw [List.reverse_cons, pf_snoc, List.length_append, List.length_append, ih]; rfl
def pz (c : Cfg) (a : List Cnt) : List Shr := (a.map (·.1)).zip (pf c a)
theorem pz_snoc (c : Cfg) (a : List Cnt) (x : Cnt) : pz c (a ++ [x]) = pz c a ++ [(x.1, min (partM c x.2.2 x.2.1) (100 - (pf c a).sum))] := by
  unfold pz
  rw [pf_snoc, List.map_append, List.zip_append (by rw [List.length_map, pf_len])]
  rfl
theorem pz_len (c : Cfg) (a : List Cnt) : (pz c a).length = a.length := by unfold pz; rw [List.length_zip, List.length_map, pf_len]; omega
def CntRange (l : List Cnt) : Prop := ∀ x ∈ l, 0 ≤ x.2.2 ∧ x.2.2 ≤ x.2.1 ∧ x.2.1 ≤ 1000
theorem partM_range {c : Cfg} (hc : c.nums) {n a : Int} (hn : 0 ≤ n) (hna : n ≤ a) (ha : a ≤ 1000) : 0 ≤ partM c n a ∧ partM c n a ≤ 100 := by
  have h := nums_load hc
  rw [partM_eq hc hn hna ha]
  split
  · omega
  · have : 0 ≤ n * c.over / a := Int.ediv_nonneg (Int.mul_nonneg (by omega) (by omega)) (by omega)
    omega
theorem pf_sum {c : Cfg} (hc : c.nums) : ∀ {a : List Cnt}, CntRange a → (∀ p ∈ pf c a, 0 ≤ p ∧ p ≤ 100) ∧ 0 ≤ (pf c a).sum ∧ (pf c a).sum ≤ 100 := by
  intro a
  rw [← List.reverse_reverse a]
  generalize a.reverse = m
  induction m with
  | nil => intro _; exact ⟨by simp [pf], by simp [pf], by simp [pf]⟩
  | cons x m ih =>
    intro hr
    rw [List.reverse_cons] at hr ⊢
    obtain ⟨h1, h2, h3⟩ := ih fun y hy => hr y (List.mem_append_left _ hy)
    obtain ⟨g1, g2, g3⟩ := hr x (by simp)
    have hp := partM_range hc g1 g2 g3
    rw [pf_snoc]
    refine ⟨fun p hp' => ?_, ?_, ?_⟩
    · rcases List.mem_append.1 hp' with hp' | hp'
      · exact h1 p hp'
      · rw [List.mem_singleton.1 hp']; omega
    · simp; omega
    · simp; omega
/-- What is gathered, by how much it is. -/
def gD {α : Type} (id : Nat) (a : List α) : D := match a with
  | [] => .sl true []
  | _ :: r => .ms id 0 (r.length + 1) (r.length + 1) false
def gO {α : Type} (sz : Nat) (a : List α) (l : List D) : Option Ob := match a with
  | [] => none
  | _ :: _ => some (.row .own sz l)
def shA (g : Bool) (c : Cfg) (all : List Cnt) : WLoop :=
  { St := List Cnt × List Cnt
    O := Unit
    T := fun s => [(2, .ptr 0 0 0), (5, gD 1 s.1), (6, gD 2 s.1), (7, .int .i64 (100 - (pf c s.1).sum)), (14, .sl g (all.map cntD)), (15, .int .i64 (all.map cntD).length), (16, .int .i64 s.1.length)]
    S := fun s => [some (.row .own 23 [c.toD]), gO 2 s.1 ((pz c s.1).map shD), gO 1 s.1 ((pf c s.1).map iD)]
    ok := fun s => s.1 ++ s.2 = all ∧ all.length ≤ 100 ∧ CntRange all ∧ mayCfg c = true ∧ c.zone.size ≤ 9223372036854775807
    μ := fun s => s.2.length
    m := fun _ => ()
    src := [(0, true), (5, true), (7, true)]
    outs := [{ α := Unit, is := fun _ _ => all = [], ex := .exit 0, T := fun _ => [(5, .sl true []), (6, .sl true []), (7, .int .i64 100)] },
      { α := Cnt × List Cnt, is := fun _ a => all = a.1 :: a.2, ex := .exit 0, src := [(1, true), (2, true)], T := fun a => [(5, .ms 0 0 (a.2.length + 1) (a.2.length + 1) false), (6, .ms 1 0 (a.2.length + 1) (a.2.length + 1) false), (7, .int .i64 (100 - (pf c (a.1 :: a.2)).sum))], S := fun a => [some (.row .own 2 ((pz c (a.1 :: a.2)).map shD)), some (.row .own 1 ((pf c (a.1 :: a.2)).map iD))] }] }
theorem shAR (g : Bool) (c : Cfg) (all : List Cnt) (s : (shA g c all).St) (hs : (shA g c all).ok s) : Tri Try.prog 0 71 (lp Try.f31 5) (tb ((shA g c all).T s)) ((shA g c all).S s) ((shA g c all).q 0 s) := by
  obtain ⟨a, r⟩ := s
  obtain ⟨h1, h2, h3, h4, h5⟩ := hs
  simp only at h1
  cases r with
  | nil =>
    rw [List.append_nil] at h1
    subst h1
    cases a with
    | nil =>
      refine round0 (C := aCfg 0 [partC] [] [(17, .f)]) (ctrs_ok ([partC]) rfl rfl) (by kernel_rfl) (by kernel_rfl) (q := false = false ∧ ((∃ (a : Unit), nilT Cnt = [] ∧ D.sl true [] = D.sl true [] ∧ D.sl true [] = D.sl true [] ∧ D.int IntKind.i64 (100 : Int) = D.int IntKind.i64 ((100 : Int) - [].sum)) ∨ ∃ (a : Cnt × List Cnt), nilT Cnt = a.fst :: a.snd ∧ (D.ms (0 : Nat) (0 : Nat) (a.snd.length + (1 : Nat)) (a.snd.length + (1 : Nat)) false = D.sl true [] ∧ D.ms (1 : Nat) (0 : Nat) (a.snd.length + (1 : Nat)) (a.snd.length + (1 : Nat)) false = D.sl true [] ∧ D.int IntKind.i64 ((100 : Int) - (pf c (a.fst :: a.snd)).sum) = D.int IntKind.i64 ((100 : Int) - [].sum)) ∧ (some (Ob.row St.own (2 : Nat) (List.map shD (pz c (a.fst :: a.snd)))) = none ∨ some (Ob.row St.own (2 : Nat) (List.map shD (pz c (a.fst :: a.snd)))) = none ∧ False) ∧ (some (Ob.row St.own (1 : Nat) (List.map iD (pf c (a.fst :: a.snd)))) = none ∨ some (Ob.row St.own (1 : Nat) (List.map iD (pf c (a.fst :: a.snd)))) = none ∧ False))) (by kernel_rfl) ?_
      exact ⟨by simp, .inl ⟨(), rfl, by simp [pf]⟩⟩
    | cons y ys =>
      refine round0 (C := aCfg 0 [partC] [] [(17, .f)]) (ctrs_ok ([partC]) rfl rfl) (by kernel_rfl) (by kernel_rfl) (q := decide ((↑(y :: ys).length : Int) < (↑(List.map cntD (y :: ys)).length : Int)) = false ∧ ((∃ (a : Unit), y :: ys = [] ∧ D.sl true [] = D.any ∧ D.sl true [] = D.any ∧ D.int IntKind.i64 (100 : Int) = D.int IntKind.i64 ((100 : Int) - (pf c (y :: ys)).sum)) ∨ ∃ (a : Cnt × List Cnt), y :: ys = a.fst :: a.snd ∧ (D.ms (0 : Nat) (0 : Nat) (a.snd.length + (1 : Nat)) (a.snd.length + (1 : Nat)) false = D.ms (0 : Nat) (0 : Nat) (ys.length + (1 : Nat)) (ys.length + (1 : Nat)) false ∧ D.ms (1 : Nat) (0 : Nat) (a.snd.length + (1 : Nat)) (a.snd.length + (1 : Nat)) false = D.ms (1 : Nat) (0 : Nat) (ys.length + (1 : Nat)) (ys.length + (1 : Nat)) false ∧ D.int IntKind.i64 ((100 : Int) - (pf c (a.fst :: a.snd)).sum) = D.int IntKind.i64 ((100 : Int) - (pf c (y :: ys)).sum)) ∧ (some (Ob.row St.own (2 : Nat) (List.map shD (pz c (a.fst :: a.snd)))) = none ∨ some (Ob.row St.own (2 : Nat) (List.map shD (pz c (a.fst :: a.snd)))) = some (Ob.row St.own (2 : Nat) (List.map shD (pz c (y :: ys)))) ∧ (List.map shD (pz c (y :: ys))).all D.pure = true) ∧ (some (Ob.row St.own (1 : Nat) (List.map iD (pf c (a.fst :: a.snd)))) = none ∨ some (Ob.row St.own (1 : Nat) (List.map iD (pf c (a.fst :: a.snd)))) = some (Ob.row St.own (1 : Nat) (List.map iD (pf c (y :: ys)))) ∧ (List.map iD (pf c (y :: ys))).all D.pure = true))) (by kernel_rfl) ?_
      refine ⟨by simp, .inr ⟨(y, ys), rfl, ⟨rfl, rfl, rfl⟩, .inr ⟨rfl, pure_shD' _⟩, .inr ⟨rfl, pure_iD _⟩⟩⟩
  | cons x r =>
    cases a with
    | nil =>
      refine round0 (C := aCfg 0 [partC] [] [(17, .t)]) (ctrs_ok ([partC]) rfl rfl) (by kernel_rfl) (by kernel_rfl) (q := decide ((0 : Int) < (↑(List.map cntD all).length : Int)) = true ∧ ∃ (y : Int × Int × Int), (0 : Int) ≤ (0 : Int) ∧ (List.map cntD all)[(0 : Nat)]? = some (D.agg [D.int IntKind.i64 y.fst, D.int IntKind.i64 y.snd.fst, D.int IntKind.i64 y.snd.snd]) ∧ ((D.agg [D.int IntKind.i64 c.interval, D.int IntKind.i64 c.timeout, D.int IntKind.i64 c.jitter, D.int IntKind.i64 c.rise, D.int IntKind.i64 c.fall, D.int IntKind.i64 c.panic, D.int IntKind.i64 c.over, D.int IntKind.i64 c.errors, D.int IntKind.i64 c.sweep, D.int IntKind.i64 c.hosts, D.int IntKind.i64 c.requests, D.int IntKind.i64 c.factor, D.int IntKind.i64 c.fails, D.int IntKind.i64 c.base, D.int IntKind.i64 c.eject, D.bool c.one, D.int IntKind.i64 c.slow, D.int IntKind.i64 c.drain, D.int IntKind.i64 c.hostLimit, D.int IntKind.i64 c.poolLimit, D.int IntKind.i64 c.policy, D.str c.zone, D.bool c.fallback] = D.agg [D.int IntKind.i64 c.interval, D.int IntKind.i64 c.timeout, D.int IntKind.i64 c.jitter, D.int IntKind.i64 c.rise, D.int IntKind.i64 c.fall, D.int IntKind.i64 c.panic, D.int IntKind.i64 c.over, D.int IntKind.i64 c.errors, D.int IntKind.i64 c.sweep, D.int IntKind.i64 c.hosts, D.int IntKind.i64 c.requests, D.int IntKind.i64 c.factor, D.int IntKind.i64 c.fails, D.int IntKind.i64 c.base, D.int IntKind.i64 c.eject, D.bool c.one, D.int IntKind.i64 c.slow, D.int IntKind.i64 c.drain, D.int IntKind.i64 c.hostLimit, D.int IntKind.i64 c.poolLimit, D.int IntKind.i64 c.policy, D.str c.zone, D.bool c.fallback] ∧ c.zone.size ≤ (9223372036854775807 : Nat)) ∧ rI y.snd.snd ∧ rI y.snd.fst) ∧ inK IntKind.i64 ((100 : Int) - [].sum - min (partM (held c) y.snd.snd y.snd.fst) ((100 : Int) - [].sum)) ∧ inK IntKind.i64 ((0 : Int) + (1 : Int)) ∧ ∃ (s' : List Cnt × List Cnt), (s'.fst ++ s'.snd = all ∧ all.length ≤ (100 : Nat) ∧ (∀ (x : Cnt), List.Mem x all → (0 : Int) ≤ x.snd.snd ∧ x.snd.snd ≤ x.snd.fst ∧ x.snd.fst ≤ (1000 : Int)) ∧ mayCfg c = true ∧ c.zone.size ≤ (9223372036854775807 : Nat)) ∧ s'.snd.length.succ ≤ (x :: r).length ∧ () = () ∧ (D.ptr (0 : Nat) (0 : Nat) (0 : Nat) = D.ptr (0 : Nat) (0 : Nat) (0 : Nat) ∧ gD (1 : Nat) s'.fst = D.ms (1 : Nat) (0 : Nat) (1 : Nat) (1 : Nat) false ∧ gD (2 : Nat) s'.fst = D.ms (2 : Nat) (0 : Nat) (1 : Nat) (1 : Nat) false ∧ D.int IntKind.i64 ((100 : Int) - (pf c s'.fst).sum) = D.int IntKind.i64 ((100 : Int) - [].sum - min (partM (held c) y.snd.snd y.snd.fst) ((100 : Int) - [].sum)) ∧ D.sl g (List.map cntD all) = D.sl g (List.map cntD all) ∧ D.int IntKind.i64 (↑(List.map cntD all).length : Int) = D.int IntKind.i64 (↑(List.map cntD all).length : Int) ∧ D.int IntKind.i64 (↑s'.fst.length : Int) = D.int IntKind.i64 ((0 : Int) + (1 : Int))) ∧ (some (Ob.row St.own (23 : Nat) [D.agg [D.int IntKind.i64 c.interval, D.int IntKind.i64 c.timeout, D.int IntKind.i64 c.jitter, D.int IntKind.i64 c.rise, D.int IntKind.i64 c.fall, D.int IntKind.i64 c.panic, D.int IntKind.i64 c.over, D.int IntKind.i64 c.errors, D.int IntKind.i64 c.sweep, D.int IntKind.i64 c.hosts, D.int IntKind.i64 c.requests, D.int IntKind.i64 c.factor, D.int IntKind.i64 c.fails, D.int IntKind.i64 c.base, D.int IntKind.i64 c.eject, D.bool c.one, D.int IntKind.i64 c.slow, D.int IntKind.i64 c.drain, D.int IntKind.i64 c.hostLimit, D.int IntKind.i64 c.poolLimit, D.int IntKind.i64 c.policy, D.str c.zone, D.bool c.fallback]]) = none ∨ some (Ob.row St.own (23 : Nat) [D.agg [D.int IntKind.i64 c.interval, D.int IntKind.i64 c.timeout, D.int IntKind.i64 c.jitter, D.int IntKind.i64 c.rise, D.int IntKind.i64 c.fall, D.int IntKind.i64 c.panic, D.int IntKind.i64 c.over, D.int IntKind.i64 c.errors, D.int IntKind.i64 c.sweep, D.int IntKind.i64 c.hosts, D.int IntKind.i64 c.requests, D.int IntKind.i64 c.factor, D.int IntKind.i64 c.fails, D.int IntKind.i64 c.base, D.int IntKind.i64 c.eject, D.bool c.one, D.int IntKind.i64 c.slow, D.int IntKind.i64 c.drain, D.int IntKind.i64 c.hostLimit, D.int IntKind.i64 c.poolLimit, D.int IntKind.i64 c.policy, D.str c.zone, D.bool c.fallback]]) = some (Ob.row St.own (23 : Nat) [D.agg [D.int IntKind.i64 c.interval, D.int IntKind.i64 c.timeout, D.int IntKind.i64 c.jitter, D.int IntKind.i64 c.rise, D.int IntKind.i64 c.fall, D.int IntKind.i64 c.panic, D.int IntKind.i64 c.over, D.int IntKind.i64 c.errors, D.int IntKind.i64 c.sweep, D.int IntKind.i64 c.hosts, D.int IntKind.i64 c.requests, D.int IntKind.i64 c.factor, D.int IntKind.i64 c.fails, D.int IntKind.i64 c.base, D.int IntKind.i64 c.eject, D.bool c.one, D.int IntKind.i64 c.slow, D.int IntKind.i64 c.drain, D.int IntKind.i64 c.hostLimit, D.int IntKind.i64 c.poolLimit, D.int IntKind.i64 c.policy, D.str c.zone, D.bool c.fallback]]) ∧ true = true) ∧ (gO (2 : Nat) s'.fst (List.map shD (pz c s'.fst)) = none ∨ gO (2 : Nat) s'.fst (List.map shD (pz c s'.fst)) = some (Ob.row St.own (2 : Nat) [D.agg [D.int IntKind.i64 y.fst, D.int IntKind.i64 (min (partM (held c) y.snd.snd y.snd.fst) ((100 : Int) - [].sum))]]) ∧ true = true) ∧ (gO (1 : Nat) s'.fst (List.map iD (pf c s'.fst)) = none ∨ gO (1 : Nat) s'.fst (List.map iD (pf c s'.fst)) = some (Ob.row St.own (1 : Nat) [D.int IntKind.i64 (min (partM (held c) y.snd.snd y.snd.fst) ((100 : Int) - [].sum))]) ∧ true = true)) (by kernel_rfl) ?_
      have hc := lmay_nums h4
      have hx : x ∈ all := by rw [← h1]; simp
      obtain ⟨g1, g2, g3⟩ := h3 x hx
      have hp := partM_range hc g1 g2 g3
      have hall : ([] ++ [x]) ++ r = all := by rw [← h1]; rfl
      have hps : pf c ([] ++ [x]) = [min (partM c x.2.2 x.2.1) (100 - ([] : List Int).sum)] := pf_snoc c [] x
      have hpz : pz c ([] ++ [x]) = [(x.1, min (partM c x.2.2 x.2.1) (100 - ([] : List Int).sum))] := pz_snoc c [] x
      have hs0 : ([] : List Int).sum = 0 := rfl
      rw [lheld_may h4]
      refine ⟨decide_eq_true (by rw [← h1]; simp <;> omega), x, by omega, by rw [← h1]; rfl, ⟨⟨rfl, h5⟩, by unfold rI; omega, by unfold rI; omega⟩, ink (by rw [hs0]; omega), ink (by omega), ([] ++ [x], r), ⟨hall, h2, h3, h4, h5⟩, Nat.le_refl _, rfl, ?_, .inr ⟨rfl, by trivial⟩, .inr ⟨?_, by trivial⟩, .inr ⟨?_, by trivial⟩⟩
      · rw [hps]
        repeat' apply And.intro
        all_goals first
          | rfl
          | (simp; done)
          | (congr 1; simp; done)
      · rw [hpz]; rfl
      · rw [hps]; rfl
    | cons y ys =>
      refine round0 (C := aCfg 0 [partC] [] [(17, .t)]) (ctrs_ok ([partC]) rfl rfl) (by kernel_rfl) (by kernel_rfl) (q := decide ((↑(y :: ys).length : Int) < (↑(List.map cntD all).length : Int)) = true ∧ ∃ (y_1 : Int × Int × Int), (0 : Int) ≤ (↑(y :: ys).length : Int) ∧ (List.map cntD all)[(↑(y :: ys).length : Int).toNat]? = some (D.agg [D.int IntKind.i64 y_1.fst, D.int IntKind.i64 y_1.snd.fst, D.int IntKind.i64 y_1.snd.snd]) ∧ ((D.agg [D.int IntKind.i64 c.interval, D.int IntKind.i64 c.timeout, D.int IntKind.i64 c.jitter, D.int IntKind.i64 c.rise, D.int IntKind.i64 c.fall, D.int IntKind.i64 c.panic, D.int IntKind.i64 c.over, D.int IntKind.i64 c.errors, D.int IntKind.i64 c.sweep, D.int IntKind.i64 c.hosts, D.int IntKind.i64 c.requests, D.int IntKind.i64 c.factor, D.int IntKind.i64 c.fails, D.int IntKind.i64 c.base, D.int IntKind.i64 c.eject, D.bool c.one, D.int IntKind.i64 c.slow, D.int IntKind.i64 c.drain, D.int IntKind.i64 c.hostLimit, D.int IntKind.i64 c.poolLimit, D.int IntKind.i64 c.policy, D.str c.zone, D.bool c.fallback] = D.agg [D.int IntKind.i64 c.interval, D.int IntKind.i64 c.timeout, D.int IntKind.i64 c.jitter, D.int IntKind.i64 c.rise, D.int IntKind.i64 c.fall, D.int IntKind.i64 c.panic, D.int IntKind.i64 c.over, D.int IntKind.i64 c.errors, D.int IntKind.i64 c.sweep, D.int IntKind.i64 c.hosts, D.int IntKind.i64 c.requests, D.int IntKind.i64 c.factor, D.int IntKind.i64 c.fails, D.int IntKind.i64 c.base, D.int IntKind.i64 c.eject, D.bool c.one, D.int IntKind.i64 c.slow, D.int IntKind.i64 c.drain, D.int IntKind.i64 c.hostLimit, D.int IntKind.i64 c.poolLimit, D.int IntKind.i64 c.policy, D.str c.zone, D.bool c.fallback] ∧ c.zone.size ≤ (9223372036854775807 : Nat)) ∧ rI y_1.snd.snd ∧ rI y_1.snd.fst) ∧ inK IntKind.i64 ((100 : Int) - (pf c (y :: ys)).sum - min (partM (held c) y_1.snd.snd y_1.snd.fst) ((100 : Int) - (pf c (y :: ys)).sum)) ∧ (0 : Nat) + (ys.length + (1 : Nat)) ≤ (List.map shD (pz c (y :: ys))).length ∧ ys.length + (1 : Nat) ≤ ys.length + (1 : Nat) ∧ (ys.length + (1 : Nat) + (1 : Nat)) * (16 : Nat) ≤ (140737488355328 : Nat) ∧ (ys.length + (1 : Nat)).succ ≤ ys.length + (1 : Nat) + (1 : Nat) ∧ (0 : Nat) = (0 : Nat) ∧ (0 : Nat) + (ys.length + (1 : Nat)) ≤ (List.map iD (pf c (y :: ys))).length ∧ ys.length + (1 : Nat) ≤ ys.length + (1 : Nat) ∧ (ys.length + (1 : Nat) + (1 : Nat)) * (8 : Nat) ≤ (140737488355328 : Nat) ∧ (ys.length + (1 : Nat)).succ ≤ ys.length + (1 : Nat) + (1 : Nat) ∧ (0 : Nat) = (0 : Nat) ∧ inK IntKind.i64 ((↑(y :: ys).length : Int) + (1 : Int)) ∧ ∃ (s' : List Cnt × List Cnt), (s'.fst ++ s'.snd = all ∧ all.length ≤ (100 : Nat) ∧ (∀ (x : Cnt), List.Mem x all → (0 : Int) ≤ x.snd.snd ∧ x.snd.snd ≤ x.snd.fst ∧ x.snd.fst ≤ (1000 : Int)) ∧ mayCfg c = true ∧ c.zone.size ≤ (9223372036854775807 : Nat)) ∧ s'.snd.length.succ ≤ (x :: r).length ∧ () = () ∧ (D.ptr (0 : Nat) (0 : Nat) (0 : Nat) = D.ptr (0 : Nat) (0 : Nat) (0 : Nat) ∧ gD (1 : Nat) s'.fst = D.ms (1 : Nat) (0 : Nat) (ys.length + (1 : Nat) + (1 : Nat)) (ys.length + (1 : Nat) + (1 : Nat)) false ∧ gD (2 : Nat) s'.fst = D.ms (2 : Nat) (0 : Nat) (ys.length + (1 : Nat) + (1 : Nat)) (ys.length + (1 : Nat) + (1 : Nat)) false ∧ D.int IntKind.i64 ((100 : Int) - (pf c s'.fst).sum) = D.int IntKind.i64 ((100 : Int) - (pf c (y :: ys)).sum - min (partM (held c) y_1.snd.snd y_1.snd.fst) ((100 : Int) - (pf c (y :: ys)).sum)) ∧ D.sl g (List.map cntD all) = D.sl g (List.map cntD all) ∧ D.int IntKind.i64 (↑(List.map cntD all).length : Int) = D.int IntKind.i64 (↑(List.map cntD all).length : Int) ∧ D.int IntKind.i64 (↑s'.fst.length : Int) = D.int IntKind.i64 ((↑(y :: ys).length : Int) + (1 : Int))) ∧ (some (Ob.row St.own (23 : Nat) [D.agg [D.int IntKind.i64 c.interval, D.int IntKind.i64 c.timeout, D.int IntKind.i64 c.jitter, D.int IntKind.i64 c.rise, D.int IntKind.i64 c.fall, D.int IntKind.i64 c.panic, D.int IntKind.i64 c.over, D.int IntKind.i64 c.errors, D.int IntKind.i64 c.sweep, D.int IntKind.i64 c.hosts, D.int IntKind.i64 c.requests, D.int IntKind.i64 c.factor, D.int IntKind.i64 c.fails, D.int IntKind.i64 c.base, D.int IntKind.i64 c.eject, D.bool c.one, D.int IntKind.i64 c.slow, D.int IntKind.i64 c.drain, D.int IntKind.i64 c.hostLimit, D.int IntKind.i64 c.poolLimit, D.int IntKind.i64 c.policy, D.str c.zone, D.bool c.fallback]]) = none ∨ some (Ob.row St.own (23 : Nat) [D.agg [D.int IntKind.i64 c.interval, D.int IntKind.i64 c.timeout, D.int IntKind.i64 c.jitter, D.int IntKind.i64 c.rise, D.int IntKind.i64 c.fall, D.int IntKind.i64 c.panic, D.int IntKind.i64 c.over, D.int IntKind.i64 c.errors, D.int IntKind.i64 c.sweep, D.int IntKind.i64 c.hosts, D.int IntKind.i64 c.requests, D.int IntKind.i64 c.factor, D.int IntKind.i64 c.fails, D.int IntKind.i64 c.base, D.int IntKind.i64 c.eject, D.bool c.one, D.int IntKind.i64 c.slow, D.int IntKind.i64 c.drain, D.int IntKind.i64 c.hostLimit, D.int IntKind.i64 c.poolLimit, D.int IntKind.i64 c.policy, D.str c.zone, D.bool c.fallback]]) = some (Ob.row St.own (23 : Nat) [D.agg [D.int IntKind.i64 c.interval, D.int IntKind.i64 c.timeout, D.int IntKind.i64 c.jitter, D.int IntKind.i64 c.rise, D.int IntKind.i64 c.fall, D.int IntKind.i64 c.panic, D.int IntKind.i64 c.over, D.int IntKind.i64 c.errors, D.int IntKind.i64 c.sweep, D.int IntKind.i64 c.hosts, D.int IntKind.i64 c.requests, D.int IntKind.i64 c.factor, D.int IntKind.i64 c.fails, D.int IntKind.i64 c.base, D.int IntKind.i64 c.eject, D.bool c.one, D.int IntKind.i64 c.slow, D.int IntKind.i64 c.drain, D.int IntKind.i64 c.hostLimit, D.int IntKind.i64 c.poolLimit, D.int IntKind.i64 c.policy, D.str c.zone, D.bool c.fallback]]) ∧ true = true) ∧ (gO (2 : Nat) s'.fst (List.map shD (pz c s'.fst)) = none ∨ gO (2 : Nat) s'.fst (List.map shD (pz c s'.fst)) = some (Ob.row St.own (2 : Nat) (List.take (ys.length + (1 : Nat)) (List.map shD (pz c (y :: ys))) ++ [D.agg [D.int IntKind.i64 y_1.fst, D.int IntKind.i64 (min (partM (held c) y_1.snd.snd y_1.snd.fst) ((100 : Int) - (pf c (y :: ys)).sum))]])) ∧ (List.take (ys.length + (1 : Nat)) (List.map shD (pz c (y :: ys))) ++ [D.agg [D.int IntKind.i64 y_1.fst, D.int IntKind.i64 (min (partM (held c) y_1.snd.snd y_1.snd.fst) ((100 : Int) - (pf c (y :: ys)).sum))]]).all D.pure = true) ∧ (gO (1 : Nat) s'.fst (List.map iD (pf c s'.fst)) = none ∨ gO (1 : Nat) s'.fst (List.map iD (pf c s'.fst)) = some (Ob.row St.own (1 : Nat) (List.take (ys.length + (1 : Nat)) (List.map iD (pf c (y :: ys))) ++ [D.int IntKind.i64 (min (partM (held c) y_1.snd.snd y_1.snd.fst) ((100 : Int) - (pf c (y :: ys)).sum))])) ∧ (List.take (ys.length + (1 : Nat)) (List.map iD (pf c (y :: ys))) ++ [D.int IntKind.i64 (min (partM (held c) y_1.snd.snd y_1.snd.fst) ((100 : Int) - (pf c (y :: ys)).sum))]).all D.pure = true)) (by kernel_rfl) ?_
      have hc := lmay_nums h4
      have hx : x ∈ all := by rw [← h1]; simp
      obtain ⟨g1, g2, g3⟩ := h3 x hx
      have hp := partM_range hc g1 g2 g3
      have hall : ((y :: ys) ++ [x]) ++ r = all := by rw [← h1]; simp
      have hps := pf_snoc c (y :: ys) x
      have hpz := pz_snoc c (y :: ys) x
      obtain ⟨_, s1, s2⟩ := pf_sum hc (a := y :: ys) fun z hz => h3 z (by rw [← h1]; exact List.mem_append_left _ hz)
      have hg : (List.map cntD all)[(((y :: ys).length : Nat) : Int).toNat]? = some (cntD x) := by rw [← h1]; exact get_midI cntD (y :: ys) x r
      have hal : all.length = ys.length + 1 + (r.length + 1) := by rw [← h1, List.length_append, List.length_cons, List.length_cons]
      have hll : (((y :: ys).length : Int) < ((List.map cntD all).length : Int)) := by rw [List.length_map, hal, List.length_cons]; omega
      have l1 : (List.map shD (pz c (y :: ys))).length = ys.length + 1 := by rw [List.length_map, pz_len, List.length_cons]
      have l2 : (List.map iD (pf c (y :: ys))).length = ys.length + 1 := by rw [List.length_map, pf_len, List.length_cons]
      have t1 : List.take (ys.length + 1) (List.map shD (pz c (y :: ys))) = List.map shD (pz c (y :: ys)) := List.take_of_length_le (by omega)
      have t2 : List.take (ys.length + 1) (List.map iD (pf c (y :: ys))) = List.map iD (pf c (y :: ys)) := List.take_of_length_le (by omega)
      rw [lheld_may h4, t1, t2, l1, l2]
      have hyl : ((y :: ys).length : Int) = ys.length + 1 := by rw [List.length_cons]; rfl
      refine ⟨decide_eq_true hll, x, by omega, hg, ⟨⟨rfl, h5⟩, by unfold rI; omega, by unfold rI; omega⟩, ink (by omega), by omega, by omega, by omega, by omega, by trivial, by omega, by omega, by omega, by omega, by trivial, ink (by omega), ((y :: ys) ++ [x], r), ⟨hall, h2, h3, h4, h5⟩, Nat.le_refl _, rfl, ?_, .inr ⟨rfl, by trivial⟩, .inr ⟨?_, ?_⟩, .inr ⟨?_, ?_⟩⟩
      · rw [hps]
        repeat' apply And.intro
        all_goals first
          | rfl
          | (simp [gD]; done)
          | (congr 1; simp; omega)
      · rw [hpz, List.map_append]; rfl
      · rw [List.all_append, pure_shD']; rfl
      · rw [hps, List.map_append]; rfl
      · rw [List.all_append, pure_iD]; rfl
def prI (cs : List Cnt) (i : Nat) : Int := (cs.getD i (0, 0, 0)).1
def pfI (c : Cfg) (cs : List Cnt) (i : Nat) : Int := (pf c cs).getD i 0
theorem pz_tab (c : Cfg) (cs : List Cnt) : pz c cs = tab cs.length fun i => (prI cs i, pfI c cs i) := by
  apply List.ext_getElem?
  intro i
  by_cases hi : i < cs.length
  · rw [tab_get _ hi]
    unfold pz prI pfI
    rw [List.getElem?_zip_eq_some.2]
    constructor
    · rw [List.getElem?_map, List.getElem?_eq_getElem hi, List.getD_eq_getElem?_getD, List.getElem?_eq_getElem hi]; rfl
    · have h2 : i < (pf c cs).length := by rw [pf_len]; exact hi
      simp [List.getD_eq_getElem?_getD, List.getElem?_eq_getElem h2]
  · rw [List.getElem?_eq_none (by rw [pz_len]; omega), List.getElem?_eq_none (by rw [tab_len]; omega)]
theorem pf_tab (c : Cfg) (cs : List Cnt) : pf c cs = tab cs.length (pfI c cs) := by
  conv => lhs; rw [tab_of 0 (pf c cs)]
  rw [pf_len]
  rfl
def shR (n : Nat) (pr old : Nat → Int) (q : List Int) (k : Nat) : List Shr := tab n fun i => (pr i, if i < k then q.getD i 0 else old i)
def shB (n : Nat) (pr old : Nat → Int) (q : List Int) : WLoop :=
  { St := Nat
    O := Unit
    T := fun k => [(5, .ms 0 0 n n false), (57, .sl true (q.map iD)), (58, .int .i64 (q.map iD).length), (59, .int .i64 k)]
    S := fun k => [some (.row .own 2 ((shR n pr old q k).map shD))]
    ok := fun k => k ≤ q.length ∧ q.length = n ∧ n ≤ 1000
    μ := fun k => q.length - k
    m := fun _ => ()
    src := [(0, true)]
    outs := [{ α := Unit, is := fun _ _ => True, ex := .exit 3, src := [(0, true)], T := fun _ => [(5, .ms 0 0 n n false)], S := fun _ => [some (.row .own 2 ((shR n pr old q n).map shD))] }] }
theorem shBR (n : Nat) (pr old : Nat → Int) (q : List Int) (k : Nat) (hs : (shB n pr old q).ok k) : Tri Try.prog 0 71 (lp Try.f31 17) (tb ((shB n pr old q).T k)) ((shB n pr old q).S k) ((shB n pr old q).q 0 k) := by
  obtain ⟨h1, h2, h3⟩ := hs
  refine round0 (C := aCfg 0 [partC] [] []) (ctrs_ok ([partC]) rfl rfl) (by kernel_rfl) (by kernel_rfl) (q := (decide ((↑k : Int) < (↑(List.map iD q).length : Int)) = true → ∃ (y : Int), (0 : Int) ≤ (↑k : Int) ∧ (List.map iD q)[(↑k : Int).toNat]? = some (D.int IntKind.i64 y) ∧ (0 : Int) ≤ (↑k : Int) ∧ (↑k : Int) < (↑n : Int) ∧ ∃ (x : Int × Int), (List.map shD (shR n pr old q k))[(0 : Nat) + (↑k : Int).toNat]? = some (D.agg [D.int IntKind.i64 x.fst, D.int IntKind.i64 x.snd]) ∧ inK IntKind.i64 ((↑k : Int) + (1 : Int)) ∧ ∃ (s' : Nat), (s' ≤ q.length ∧ q.length = n ∧ n ≤ (1000 : Nat)) ∧ (q.length - s').succ ≤ q.length - k ∧ () = () ∧ (D.ms (0 : Nat) (0 : Nat) n n false = D.ms (0 : Nat) (0 : Nat) n n false ∧ D.sl true (List.map iD q) = D.sl true (List.map iD q) ∧ D.int IntKind.i64 (↑(List.map iD q).length : Int) = D.int IntKind.i64 (↑(List.map iD q).length : Int) ∧ D.int IntKind.i64 (↑s' : Int) = D.int IntKind.i64 ((↑k : Int) + (1 : Int))) ∧ (some (Ob.row St.own (2 : Nat) (List.map shD (shR n pr old q s'))) = none ∨ some (Ob.row St.own (2 : Nat) (List.map shD (shR n pr old q s'))) = some (Ob.row St.own (2 : Nat) ((List.map shD (shR n pr old q k)).set ((0 : Nat) + (↑k : Int).toNat) (D.agg [D.int IntKind.i64 x.fst, D.int IntKind.i64 y]))) ∧ ((List.map shD (shR n pr old q k)).set ((0 : Nat) + (↑k : Int).toNat) (D.agg [D.int IntKind.i64 x.fst, D.int IntKind.i64 y])).all D.pure = true)) ∧ (decide ((↑k : Int) < (↑(List.map iD q).length : Int)) = false → ∃ (a : Unit), True ∧ D.ms (0 : Nat) (0 : Nat) n n false = D.ms (0 : Nat) (0 : Nat) n n false ∧ (some (Ob.row St.own (2 : Nat) (List.map shD (shR n pr old q n))) = none ∨ some (Ob.row St.own (2 : Nat) (List.map shD (shR n pr old q n))) = some (Ob.row St.own (2 : Nat) (List.map shD (shR n pr old q k))) ∧ (List.map shD (shR n pr old q k)).all D.pure = true))) (by kernel_rfl) ?_
  have hkl : (List.map iD q).length = q.length := List.length_map ..
  refine ⟨fun hlt => ?_, fun hge => ?_⟩
  · have hlt : k < q.length := by have := of_decide_eq_true hlt; omega
    have hg : (List.map iD q)[((k : Nat) : Int).toNat]? = some (iD (q.getD k 0)) := by
      rw [Int.toNat_natCast, List.getElem?_map, List.getD_eq_getElem?_getD, List.getElem?_eq_getElem hlt]; rfl
    refine ⟨q.getD k 0, by omega, hg, by omega, by omega, (pr k, old k), ?_, ink (by omega), k + 1, ⟨by omega, h2, h3⟩, by omega, rfl, ?_, .inr ⟨?_, ?_⟩⟩
    · unfold shR
      rw [sget _ (by omega)]
      simp
    · repeat' apply And.intro
      all_goals rfl
    · unfold shR
      rw [sset]
      congr 3
      refine tab_congr fun i hi => ?_
      by_cases h : i = k
      · subst h; simp
      · have : (i < k + 1) = (i < k) := by apply propext; omega
        simp only [this, if_neg h]
    · unfold shR
      rw [sset]
      exact pure_shD' _
  · have : k = n := by have := of_decide_eq_false hge; omega
    rw [this]
    exact ⟨(), trivial, rfl, .inr ⟨rfl, pure_shD' _⟩⟩
/-- The shares of priorities. -/
def shPart (c : Cfg) (cs : List Cnt) (i : Nat) : Int :=
  if (pf c cs).sum = 0 then (if i = 0 then 100 else pfI c cs i) else if (pf c cs).sum < 100 then (spreadV 100 (pf c cs)).getD i 0 else pfI c cs i
def sharesM (c : Cfg) (cs : List Cnt) : List Shr := tab cs.length fun i => (prI cs i, shPart c cs i)
noncomputable def shC0 : List Ctr := [coCC, partC, sprC2]
noncomputable def shCfg (c : Cfg) (cs : List Cnt) : WCfg := { aCfg 0 shC0 [] [] with loops := fun k => match k with
  | 5 => some ((shA cs.isEmpty c cs).row [(0, true), (5, true), (6, true)])
  | 17 => some ((shB cs.length (prI cs) (pfI c cs) (spreadV 100 (pf c cs))).row [(0, true)])
  | _ => none }
theorem cnts_range {ms : List Stat} (h : ms.length ≤ 1000) : CntRange (cnts ms) := by
  intro x hx
  obtain ⟨h1, h2, h3, h4⟩ := (cnts_ok ms).ent x hx
  rw [h2, h3]
  unfold nP nF
  have i1 : (ms.filter fun t => decide (t.prio = x.1)).length ≤ ms.length := List.length_filter_le ..
  have i2 : (ms.filter fun t => decide (t.prio = x.1) && freeT t).length ≤ (ms.filter fun t => decide (t.prio = x.1)).length := by
    rw [show (ms.filter fun u => decide (u.prio = x.1) && freeT u) = (ms.filter fun u => decide (u.prio = x.1)).filter freeT by rw [List.filter_filter]; congr 1; funext u; rw [Bool.and_comm]]
    exact List.length_filter_le ..
  omega
theorem pf_spread {c : Cfg} (hc : c.nums) {cs : List Cnt} (hr : CntRange cs) (hl : cs.length ≤ 100) (h0 : (pf c cs).sum ≠ 0) : FairZ 100 (pf c cs) (spreadV 100 (pf c cs)) := by
  obtain ⟨p1, p2, p3⟩ := pf_sum hc hr
  exact fairZ (by omega) (by omega) (fun p hp => by have := p1 p hp; omega) (by rw [pf_len]; exact hl) (by omega)
theorem pzset {n : Nat} (hn : 0 < n) (pr v : Nat → Int) (a b : Int) : (List.map shD (tab n fun i => (pr i, v i))).set 0 (.agg [.int .i64 a, .int .i64 b]) = List.map shD (tab n fun i => if i = 0 then (a, b) else (pr i, v i)) := by
  show (List.map shD _).set 0 (shD (a, b)) = _
  rw [← List.map_set, tab_set]
theorem ldN (f : Bool) (c : Cfg) (l : List Stat) (h1 : l.length ≤ 100) (h2 : ∀ t ∈ l, t.small) (hm : mayCfg c = true) (hz : c.zone.size ≤ 9223372036854775807) : (∃ (l_1 : List Stat), List.map statD l = List.map statD l_1 ∧ l_1.length ≤ (1000 : Nat) ∧ ∀ (t : Stat), List.Mem t l_1 → t.small) ∧ ∃ (b : List Cnt × List Cnt), (b.fst ++ b.snd = cnts (resMb l) ∧ (cnts (resMb l)).length ≤ (100 : Nat) ∧ (∀ (x : Cnt), List.Mem x (cnts (resMb l)) → (0 : Int) ≤ x.snd.snd ∧ x.snd.snd ≤ x.snd.fst ∧ x.snd.fst ≤ (1000 : Int)) ∧ mayCfg c = true ∧ c.zone.size ≤ (9223372036854775807 : Nat)) ∧ ((D.ptr (0 : Nat) (0 : Nat) (0 : Nat) = D.ptr (0 : Nat) (0 : Nat) (0 : Nat) ∧ gD (1 : Nat) b.fst = D.sl true [] ∧ gD (2 : Nat) b.fst = D.sl true [] ∧ D.int IntKind.i64 ((100 : Int) - (pf c b.fst).sum) = D.int IntKind.i64 (100 : Int) ∧ D.sl (cnts (resMb l)).isEmpty (List.map cntD (cnts (resMb l))) = D.sl (cnts (resMb (List.map dStat (List.map statD l)))).isEmpty (List.map cntD (cnts (resMb (List.map dStat (List.map statD l))))) ∧ D.int IntKind.i64 (↑(List.map cntD (cnts (resMb l))).length : Int) = D.int IntKind.i64 (↑(List.map cntD (cnts (resMb (List.map dStat (List.map statD l))))).length : Int) ∧ D.int IntKind.i64 (↑b.fst.length : Int) = D.int IntKind.i64 (0 : Int)) ∧ (some (Ob.row St.own (23 : Nat) [D.agg [D.int IntKind.i64 c.interval, D.int IntKind.i64 c.timeout, D.int IntKind.i64 c.jitter, D.int IntKind.i64 c.rise, D.int IntKind.i64 c.fall, D.int IntKind.i64 c.panic, D.int IntKind.i64 c.over, D.int IntKind.i64 c.errors, D.int IntKind.i64 c.sweep, D.int IntKind.i64 c.hosts, D.int IntKind.i64 c.requests, D.int IntKind.i64 c.factor, D.int IntKind.i64 c.fails, D.int IntKind.i64 c.base, D.int IntKind.i64 c.eject, D.bool c.one, D.int IntKind.i64 c.slow, D.int IntKind.i64 c.drain, D.int IntKind.i64 c.hostLimit, D.int IntKind.i64 c.poolLimit, D.int IntKind.i64 c.policy, D.str c.zone, D.bool c.fallback]]) = none ∨ some (Ob.row St.own (23 : Nat) [D.agg [D.int IntKind.i64 c.interval, D.int IntKind.i64 c.timeout, D.int IntKind.i64 c.jitter, D.int IntKind.i64 c.rise, D.int IntKind.i64 c.fall, D.int IntKind.i64 c.panic, D.int IntKind.i64 c.over, D.int IntKind.i64 c.errors, D.int IntKind.i64 c.sweep, D.int IntKind.i64 c.hosts, D.int IntKind.i64 c.requests, D.int IntKind.i64 c.factor, D.int IntKind.i64 c.fails, D.int IntKind.i64 c.base, D.int IntKind.i64 c.eject, D.bool c.one, D.int IntKind.i64 c.slow, D.int IntKind.i64 c.drain, D.int IntKind.i64 c.hostLimit, D.int IntKind.i64 c.poolLimit, D.int IntKind.i64 c.policy, D.str c.zone, D.bool c.fallback]]) = some (Ob.row St.own (23 : Nat) [D.agg [D.int IntKind.i64 c.interval, D.int IntKind.i64 c.timeout, D.int IntKind.i64 c.jitter, D.int IntKind.i64 c.rise, D.int IntKind.i64 c.fall, D.int IntKind.i64 c.panic, D.int IntKind.i64 c.over, D.int IntKind.i64 c.errors, D.int IntKind.i64 c.sweep, D.int IntKind.i64 c.hosts, D.int IntKind.i64 c.requests, D.int IntKind.i64 c.factor, D.int IntKind.i64 c.fails, D.int IntKind.i64 c.base, D.int IntKind.i64 c.eject, D.bool c.one, D.int IntKind.i64 c.slow, D.int IntKind.i64 c.drain, D.int IntKind.i64 c.hostLimit, D.int IntKind.i64 c.poolLimit, D.int IntKind.i64 c.policy, D.str c.zone, D.bool c.fallback]]) ∧ true = true) ∧ (gO (2 : Nat) b.fst (List.map shD (pz c b.fst)) = none ∨ gO (2 : Nat) b.fst (List.map shD (pz c b.fst)) = none ∧ False) ∧ (gO (1 : Nat) b.fst (List.map iD (pf c b.fst)) = none ∨ gO (1 : Nat) b.fst (List.map iD (pf c b.fst)) = none ∧ False)) ∧ (∀ (a : Unit), cnts (resMb l) = [] → (true = true → D.sl true [] = D.sl (cnts (resMb l)).isEmpty (List.map shD (sharesM c (cnts (resMb l))))) ∧ (true = false → (true = true → ∃ (y : Int × Int), (0 : Int) ≤ (0 : Int) ∧ none = some (D.agg [D.int IntKind.i64 y.fst, D.int IntKind.i64 y.snd]) ∧ False) ∧ (true = false → (true = true → (rI (100 : Int) ∧ ∃ (l : List Int), nilT D = List.map iD l ∧ (∀ (p : Int), List.Mem p l → rI p) ∧ l.length ≤ (100 : Nat)) ∧ ∃ (b : Nat), (b ≤ (spreadV (100 : Int) (pf c (cnts (resMb l)))).length ∧ (spreadV (100 : Int) (pf c (cnts (resMb l)))).length = (cnts (resMb l)).length ∧ (cnts (resMb l)).length ≤ (1000 : Nat)) ∧ ((D.ms (0 : Nat) (0 : Nat) (cnts (resMb l)).length (cnts (resMb l)).length false = D.sl true [] ∧ D.sl true (List.map iD (spreadV (100 : Int) (pf c (cnts (resMb l))))) = D.sl true [] ∧ D.int IntKind.i64 (↑(List.map iD (spreadV (100 : Int) (pf c (cnts (resMb l))))).length : Int) = D.int IntKind.i64 (0 : Int) ∧ D.int IntKind.i64 (↑b : Int) = D.int IntKind.i64 (0 : Int)) ∧ (some (Ob.row St.own (2 : Nat) (List.map shD (shR (cnts (resMb l)).length (prI (cnts (resMb l))) (pfI c (cnts (resMb l))) (spreadV (100 : Int) (pf c (cnts (resMb l)))) b))) = none ∨ some (Ob.row St.own (2 : Nat) (List.map shD (shR (cnts (resMb l)).length (prI (cnts (resMb l))) (pfI c (cnts (resMb l))) (spreadV (100 : Int) (pf c (cnts (resMb l)))) b))) = none ∧ False)) ∧ ∀ (a : Unit), True → (0 : Nat) + (cnts (resMb l)).length ≤ (List.map shD (shR (cnts (resMb l)).length (prI (cnts (resMb l))) (pfI c (cnts (resMb l))) (spreadV (100 : Int) (pf c (cnts (resMb l)))) (cnts (resMb l)).length)).length ∧ (List.take (cnts (resMb l)).length (List.drop (0 : Nat) (List.map shD (shR (cnts (resMb l)).length (prI (cnts (resMb l))) (pfI c (cnts (resMb l))) (spreadV (100 : Int) (pf c (cnts (resMb l)))) (cnts (resMb l)).length)))).all D.pure = true ∧ D.sl false (List.take (cnts (resMb l)).length (List.drop (0 : Nat) (List.map shD (shR (cnts (resMb l)).length (prI (cnts (resMb l))) (pfI c (cnts (resMb l))) (spreadV (100 : Int) (pf c (cnts (resMb l)))) (cnts (resMb l)).length)))) = D.sl (cnts (resMb l)).isEmpty (List.map shD (sharesM c (cnts (resMb l))))) ∧ (true = false → D.sl true [] = D.sl (cnts (resMb l)).isEmpty (List.map shD (sharesM c (cnts (resMb l)))))))) ∧ ∀ (a : Cnt × List Cnt), cnts (resMb l) = a.fst :: a.snd → (false = true → D.sl true [] = D.sl (cnts (resMb l)).isEmpty (List.map shD (sharesM c (cnts (resMb l))))) ∧ (false = false → (decide ((100 : Int) - (pf c (a.fst :: a.snd)).sum = (100 : Int)) = true → (0 : Int) ≤ (0 : Int) ∧ (0 : Int) < (↑(a.snd.length + (1 : Nat)) : Int) ∧ ∃ (x : Int × Int), (List.map shD (pz c (a.fst :: a.snd)))[(0 : Nat)]? = some (D.agg [D.int IntKind.i64 x.fst, D.int IntKind.i64 x.snd]) ∧ (0 : Nat) + (a.snd.length + (1 : Nat)) ≤ ((List.map shD (pz c (a.fst :: a.snd))).set (0 : Nat) (D.agg [D.int IntKind.i64 x.fst, D.int IntKind.i64 (100 : Int)])).length ∧ (List.take (a.snd.length + (1 : Nat)) (List.drop (0 : Nat) ((List.map shD (pz c (a.fst :: a.snd))).set (0 : Nat) (D.agg [D.int IntKind.i64 x.fst, D.int IntKind.i64 (100 : Int)])))).all D.pure = true ∧ D.sl false (List.take (a.snd.length + (1 : Nat)) (List.drop (0 : Nat) ((List.map shD (pz c (a.fst :: a.snd))).set (0 : Nat) (D.agg [D.int IntKind.i64 x.fst, D.int IntKind.i64 (100 : Int)])))) = D.sl (cnts (resMb l)).isEmpty (List.map shD (sharesM c (cnts (resMb l))))) ∧ (decide ((100 : Int) - (pf c (a.fst :: a.snd)).sum = (100 : Int)) = false → (decide ((0 : Int) < (100 : Int) - (pf c (a.fst :: a.snd)).sum) = true → (0 : Nat) + (a.snd.length + (1 : Nat)) ≤ (List.map iD (pf c (a.fst :: a.snd))).length ∧ (List.take (a.snd.length + (1 : Nat)) (List.drop (0 : Nat) (List.map iD (pf c (a.fst :: a.snd))))).all D.pure = true ∧ (rI (100 : Int) ∧ ∃ (l : List Int), List.take (a.snd.length + (1 : Nat)) (List.drop (0 : Nat) (List.map iD (pf c (a.fst :: a.snd)))) = List.map iD l ∧ (∀ (p : Int), List.Mem p l → rI p) ∧ l.length ≤ (100 : Nat)) ∧ ∃ (b : Nat), (b ≤ (spreadV (100 : Int) (pf c (cnts (resMb l)))).length ∧ (spreadV (100 : Int) (pf c (cnts (resMb l)))).length = (cnts (resMb l)).length ∧ (cnts (resMb l)).length ≤ (1000 : Nat)) ∧ ((D.ms (0 : Nat) (0 : Nat) (cnts (resMb l)).length (cnts (resMb l)).length false = D.ms (0 : Nat) (0 : Nat) (a.snd.length + (1 : Nat)) (a.snd.length + (1 : Nat)) false ∧ D.sl true (List.map iD (spreadV (100 : Int) (pf c (cnts (resMb l))))) = D.sl true (List.map iD (spreadV (100 : Int) (List.map dI (List.take (a.snd.length + (1 : Nat)) (List.drop (0 : Nat) (List.map iD (pf c (a.fst :: a.snd)))))))) ∧ D.int IntKind.i64 (↑(List.map iD (spreadV (100 : Int) (pf c (cnts (resMb l))))).length : Int) = D.int IntKind.i64 (↑(List.map iD (spreadV (100 : Int) (List.map dI (List.take (a.snd.length + (1 : Nat)) (List.drop (0 : Nat) (List.map iD (pf c (a.fst :: a.snd)))))))).length : Int) ∧ D.int IntKind.i64 (↑b : Int) = D.int IntKind.i64 (0 : Int)) ∧ (some (Ob.row St.own (2 : Nat) (List.map shD (shR (cnts (resMb l)).length (prI (cnts (resMb l))) (pfI c (cnts (resMb l))) (spreadV (100 : Int) (pf c (cnts (resMb l)))) b))) = none ∨ some (Ob.row St.own (2 : Nat) (List.map shD (shR (cnts (resMb l)).length (prI (cnts (resMb l))) (pfI c (cnts (resMb l))) (spreadV (100 : Int) (pf c (cnts (resMb l)))) b))) = some (Ob.row St.own (2 : Nat) (List.map shD (pz c (a.fst :: a.snd)))) ∧ (List.map shD (pz c (a.fst :: a.snd))).all D.pure = true)) ∧ ∀ (a : Unit), True → (0 : Nat) + (cnts (resMb l)).length ≤ (List.map shD (shR (cnts (resMb l)).length (prI (cnts (resMb l))) (pfI c (cnts (resMb l))) (spreadV (100 : Int) (pf c (cnts (resMb l)))) (cnts (resMb l)).length)).length ∧ (List.take (cnts (resMb l)).length (List.drop (0 : Nat) (List.map shD (shR (cnts (resMb l)).length (prI (cnts (resMb l))) (pfI c (cnts (resMb l))) (spreadV (100 : Int) (pf c (cnts (resMb l)))) (cnts (resMb l)).length)))).all D.pure = true ∧ D.sl false (List.take (cnts (resMb l)).length (List.drop (0 : Nat) (List.map shD (shR (cnts (resMb l)).length (prI (cnts (resMb l))) (pfI c (cnts (resMb l))) (spreadV (100 : Int) (pf c (cnts (resMb l)))) (cnts (resMb l)).length)))) = D.sl (cnts (resMb l)).isEmpty (List.map shD (sharesM c (cnts (resMb l))))) ∧ (decide ((0 : Int) < (100 : Int) - (pf c (a.fst :: a.snd)).sum) = false → (0 : Nat) + (a.snd.length + (1 : Nat)) ≤ (List.map shD (pz c (a.fst :: a.snd))).length ∧ (List.take (a.snd.length + (1 : Nat)) (List.drop (0 : Nat) (List.map shD (pz c (a.fst :: a.snd))))).all D.pure = true ∧ D.sl false (List.take (a.snd.length + (1 : Nat)) (List.drop (0 : Nat) (List.map shD (pz c (a.fst :: a.snd))))) = D.sl (cnts (resMb l)).isEmpty (List.map shD (sharesM c (cnts (resMb l))))))) := by
  have hml := resMb_len l
  have hr := cnts_range (ms := resMb l) (by omega)
  have hl := cnts_len (resMb l)
  have hc := lmay_nums hm
  rw [map_dStat]
  generalize cnts (resMb l) = cs at *
  obtain ⟨p1, p2, p3⟩ := pf_sum hc hr
  refine ⟨⟨l, rfl, by omega, h2⟩, ([], cs), ⟨rfl, by omega, hr, hm, hz⟩, ⟨?_, .inr ⟨rfl, by trivial⟩, .inl rfl, .inl rfl⟩, fun _ he => ⟨fun _ => by rw [he]; rfl, fun h => by cases h⟩, fun a ha => ⟨(fun h => by cases h), fun _ => ?_⟩⟩
  · repeat' apply And.intro
    all_goals first
      | rfl
      | (simp [pf]; done)
  obtain ⟨y, ys⟩ := a
  simp only at ha
  rw [← ha]
  have hn : ys.length + 1 = cs.length := by rw [ha, List.length_cons]
  have hemp : cs.isEmpty = false := by rw [ha]; rfl
  rw [hn, hemp]
  have hpz := pz_tab c cs
  have hpos : 0 < cs.length := by omega
  have ft : ∀ g : Nat → Shr, List.take cs.length (List.drop 0 (List.map shD (tab cs.length g))) = List.map shD (tab cs.length g) := fun g => fullT _ _ _
  have fl : ∀ g : Nat → Shr, (List.map shD (tab cs.length g)).length = cs.length := fun g => by rw [List.length_map, tab_len]
  have hp0 : pfI c cs 0 = pfI c cs 0 := rfl
  rw [hpz]
  refine ⟨fun g => ?_, fun g => ⟨fun g' => ?_, fun g' => ?_⟩⟩
  · have g : (pf c cs).sum = 0 := by have := of_decide_eq_true g; omega
    refine ⟨by omega, by omega, (prI cs 0, pfI c cs 0), by rw [List.getElem?_map, tab_get _ hpos]; rfl, ?_, ?_, ?_⟩
    · rw [pzset hpos, fl]; omega
    · rw [pzset hpos, ft]; exact pure_shD' _
    · rw [pzset hpos, ft]
      unfold sharesM shPart
      refine congrArg (fun z => D.sl false (List.map shD z)) (tab_congr fun i hi => ?_)
      rw [if_pos g]
      by_cases h0 : i = 0
      · subst h0; simp
      · simp [h0]
  · have g : (pf c cs).sum ≠ 0 := by have := of_decide_eq_false g; omega
    have g' : (pf c cs).sum < 100 := by have := of_decide_eq_true g'; omega
    have hf := pf_spread hc hr (by omega) g
    have hfl : (spreadV 100 (pf c cs)).length = cs.length := by rw [hf.len, pf_len]
    have hpt : List.take cs.length (List.drop 0 (List.map iD (pf c cs))) = List.map iD (pf c cs) := by
      rw [List.drop_zero]; exact List.take_of_length_le (by rw [List.length_map, pf_len]; omega)
    have hshr : shR cs.length (prI cs) (pfI c cs) (spreadV 100 (pf c cs)) cs.length = sharesM c cs := by
      unfold shR sharesM shPart
      refine tab_congr fun i hi => ?_
      rw [if_pos hi, if_neg g, if_pos g']
    have h0 : shR cs.length (prI cs) (pfI c cs) (spreadV 100 (pf c cs)) 0 = tab cs.length fun i => (prI cs i, pfI c cs i) := by
      unfold shR
      exact tab_congr fun i hi => by simp
    rw [hpt, map_dI, hshr]
    refine ⟨by rw [List.length_map, pf_len]; omega, pure_iD _, ⟨by unfold rI; omega, pf c cs, rfl, fun p hp => by have := p1 p hp; unfold rI; omega, by rw [pf_len]; omega⟩, 0, ⟨by omega, hfl, by omega⟩, ⟨?_, .inr ⟨by rw [h0], pure_shD' _⟩⟩, fun _ _ => ⟨?_, ?_, ?_⟩⟩
    · repeat' apply And.intro
      all_goals rfl
    · unfold sharesM; rw [fl]; omega
    · unfold sharesM; rw [ft]; exact pure_shD' _
    · unfold sharesM; rw [ft]
  · have g : (pf c cs).sum ≠ 0 := by have := of_decide_eq_false g; omega
    have g' : ¬ (pf c cs).sum < 100 := by have := of_decide_eq_false g'; omega
    refine ⟨by rw [fl]; omega, by rw [ft]; exact pure_shD' _, ?_⟩
    rw [ft]
    unfold sharesM shPart
    refine congrArg (fun z => D.sl false (List.map shD z)) (tab_congr fun i hi => ?_)
    rw [if_neg g, if_neg g']
def ldS (vs : List D) : Option DOut := match vs with | [.agg cc, .sl f xs] => some ⟨lcfgArg cc ∧ mayCfg (dCfg (.agg cc)) = true ∧ ∃ l : List Stat, xs = l.map statD ∧ l.length ≤ 100 ∧ ∀ t ∈ l, t.small, .sl (cnts (resMb (xs.map dStat))).isEmpty ((sharesM (dCfg (.agg cc)) (cnts (resMb (xs.map dStat)))).map shD)⟩ | _ => none
/-- load.Shares. -/
def ldC : Ctr := ⟨31, ldS, by
  intro vs o ho hp
  unfold ldS at ho
  split at ho
  · rename_i cc f xs
    injection ho with ho; subst ho
    obtain ⟨⟨k1, k2⟩, hm, l, rfl, h1, h2⟩ := hp
    simp only [map_dStat] at hm ⊢
    rw [k1]
    generalize dCfg (.agg _) = c at *
    refine dataFunL (C := shCfg c (cnts (resMb l))) (ctrs_ok shC0 rfl rfl) rfl Try.func31 (by kernel_rfl) (l := [lp Try.f31 5, lp Try.f31 17]) (by kernel_rfl) ?_ (by kernel_rfl) (by kernel_rfl) (by kernel_rfl) (ldN f c l h1 h2 hm k2)
    intro x hx
    simp only [List.mem_cons, List.not_mem_nil, or_false] at hx
    rcases hx with rfl | rfl
    · exact (shA _ c _).fits 5 [(0, true), (5, true), (6, true)] (by kernel_rfl) rfl (shAR _ c _)
    · exact (shB _ _ _ _).fits 17 [(0, true)] (by kernel_rfl) rfl fun s hs => shBR _ _ _ _ s hs
  · cases ho⟩
end Go.Proofs.Ytgibpomhiilehaa.Dv
