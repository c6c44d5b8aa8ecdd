/- Two places: the law. -/
import Derived.Test.YtfjgngdomjjpgaaE1
set_option linter.unusedVariables false
set_option linter.unusedSimpArgs false
namespace Go.Proofs.Ytfjgngdomjjpgaa.Dv
open Go Go.Proofs
def gotL (k : Nat) : List Int := List.replicate k 1 ++ List.replicate (60 - k) 0
def gotO (k : Nat) : Option Ob := some (.row .own 60 [.agg ((gotL k).map iD)])
def twoL1 (n b : Int) : WLoop := { St := Nat, O := Unit, T := fun k => [(0, .int .i64 n), (2, .int .i64 b), (9, .ptr 0 0 0), (50, .int .i64 n), (51, .int .i64 (k : Nat))], S := fun k => [gotO k], ok := fun (k : Nat) => (k : Int) ≤ n ∧ 1 ≤ n ∧ n ≤ 60 ∧ rI b, μ := fun k => n.toNat - k, m := fun _ => (), src := [(0, true)]
                                   outs := [{ α := Unit, is := Eq, ex := .exit 0, src := [(0, true)], T := fun _ => [(0, .int .i64 n), (9, .ptr 0 0 0)], S := fun _ => [gotO n.toNat] }] }
def twoL2 (n : Int) : WLoop := { St := Nat, O := Unit, T := fun k => [(9, .ptr 0 0 0), (74, .int .i64 n), (75, .int .i64 (k : Nat))], S := fun k => [gotO n.toNat], ok := fun (k : Nat) => (k : Int) ≤ n ∧ 1 ≤ n ∧ n ≤ 60, μ := fun k => n.toNat - k, m := fun _ => (), src := [(0, true)]
                                 outs := [{ α := Unit, is := Eq, ex := .exit 2, src := [], T := fun _ => [], S := fun _ => [] }] }
theorem got_all : ∀ k : Fin 60, (gotL k.1).take k.1 ++ [1] ++ (gotL k.1).drop (k.1 + 1) = gotL (k.1 + 1) ∧ (gotL k.1)[k.1]? = some 0 ∧ (gotL k.1).length = 60 := by decide
theorem got_set {k : Nat} (h : k < 60) : setRange ((gotL k).map iD) k [D.int .i64 (0 + 1)] = (gotL (k + 1)).map iD := by
  have := (got_all ⟨k, h⟩).1
  simp only at this
  rw [← this]
  simp [setRange, iD]
theorem got_one {n k : Nat} (h : k < n) : (gotL n)[k]? = some 1 := by
  unfold gotL
  rw [List.getElem?_append_left (by simpa using h), List.getElem?_replicate, if_pos h]
theorem pure_agg (l : List Int) : [D.agg (l.map iD)].all D.pure = true := by
  simp only [List.all_cons, List.all_nil, Bool.and_true, D.pure, List.all_eq_true]
  intro x hx
  obtain ⟨n, _, rfl⟩ := List.mem_map.1 hx
  rfl
theorem twoM_fst {n k : Int} (b : Int) (h0 : 0 ≤ k) (h1 : k < n) : (twoM n k b).1 = k := by
  unfold twoM
  split
  · show 0 = k; omega
  · show drI k n = k
    rw [(drI_mod k (show 1 ≤ n by omega)).1]
    exact Int.emod_eq_of_lt h0 h1
theorem two1R (n b : Int) (k : Nat) (hk : (twoL1 n b).ok k) : Tri Try.prog 0 84 (lp Try.f7 7) (tb ((twoL1 n b).T k)) ((twoL1 n b).S k) ((twoL1 n b).q 0 k) := by
  obtain ⟨h1, h2, h3, h4⟩ := hk
  rcases Int.lt_or_le (k : Int) n with h | h
  · refine round0 (C := cfgE lawC22 [(52, .t), (63, .f), (67, .f)]) (ctrs_ok lawC22 rfl rfl) (by kernel_rfl) (by kernel_rfl) (q := decide ((↑k : Int) < n) = true ∧ (rI n ∧ rI (↑k : Int) ∧ rI b) ∧ decide ((twoM n (↑k : Int) b).fst < (0 : Int)) = false ∧ decide (n ≤ (twoM n (↑k : Int) b).fst) = false ∧ (0 : Int) ≤ (twoM n (↑k : Int) b).fst ∧ (twoM n (↑k : Int) b).fst < (60 : Int) ∧ ∃ (x : Int), (List.map iD (gotL k))[(0 : Nat) + (twoM n (↑k : Int) b).fst.toNat * (1 : Nat)]? = some (D.int IntKind.i64 x) ∧ inK IntKind.i64 (x + (1 : Int)) ∧ (0 : Int) ≤ (twoM n (↑k : Int) b).fst ∧ (twoM n (↑k : Int) b).fst < (60 : Int) ∧ ((0 : Nat) + (twoM n (↑k : Int) b).fst.toNat * (1 : Nat)).succ ≤ (List.map iD (gotL k)).length ∧ inK IntKind.i64 ((↑k : Int) + (1 : Int)) ∧ ∃ (s' : Nat), ((↑s' : Int) ≤ n ∧ (1 : Int) ≤ n ∧ n ≤ (60 : Int) ∧ rI b) ∧ (n.toNat - s').succ ≤ n.toNat - k ∧ () = () ∧ (D.int IntKind.i64 n = D.int IntKind.i64 n ∧ D.int IntKind.i64 b = D.int IntKind.i64 b ∧ D.ptr (0 : Nat) (0 : Nat) (0 : Nat) = D.ptr (0 : Nat) (0 : Nat) (0 : Nat) ∧ D.int IntKind.i64 n = D.int IntKind.i64 n ∧ D.int IntKind.i64 (↑s' : Int) = D.int IntKind.i64 ((↑k : Int) + (1 : Int))) ∧ (some (Ob.row St.own (60 : Nat) [D.agg (List.map iD (gotL s'))]) = none ∨ some (Ob.row St.own (60 : Nat) [D.agg (List.map iD (gotL s'))]) = some (Ob.row St.own (60 : Nat) [D.agg (setRange (List.map iD (gotL k)) ((0 : Nat) + (twoM n (↑k : Int) b).fst.toNat * (1 : Nat)) [D.int IntKind.i64 (x + (1 : Int))])]) ∧ [D.agg (setRange (List.map iD (gotL k)) ((0 : Nat) + (twoM n (↑k : Int) b).fst.toNat * (1 : Nat)) [D.int IntKind.i64 (x + (1 : Int))])].all D.pure = true)) (by kernel_rfl) ?_
    have hf := twoM_fst b (show (0 : Int) ≤ (k : Int) by omega) h
    rw [hf]
    have g := (got_all ⟨k, by omega⟩).2
    simp only at g
    have ek : 0 + (k : Int).toNat * 1 = k := by omega
    rw [ek]
    simp only [inK, rI] at *
    refine ⟨by simpa using h, ⟨by omega, by omega, h4⟩, by simp, by simp; omega, by omega, by omega, 0, by rw [List.getElem?_map, g.1]; rfl, by omega, by omega, by omega, by rw [List.length_map, g.2]; omega, by omega, k + 1, ⟨by omega, h2, h3, h4⟩, by omega, trivial, ?_, .inr ⟨?_, ?_⟩⟩
    · simp
    · rw [got_set (by omega)]
    · rw [got_set (by omega)]; exact pure_agg _
  · refine round0 (C := cfgE lawC22 [(52, .f)]) (ctrs_ok lawC22 rfl rfl) (by kernel_rfl) (by kernel_rfl) (q := decide ((↑k : Int) < n) = false ∧ ∃ (a : Unit), () = a ∧ (D.int IntKind.i64 n = D.int IntKind.i64 n ∧ D.ptr (0 : Nat) (0 : Nat) (0 : Nat) = D.ptr (0 : Nat) (0 : Nat) (0 : Nat)) ∧ (some (Ob.row St.own (60 : Nat) [D.agg (List.map iD (gotL n.toNat))]) = none ∨ some (Ob.row St.own (60 : Nat) [D.agg (List.map iD (gotL n.toNat))]) = some (Ob.row St.own (60 : Nat) [D.agg (List.map iD (gotL k))]) ∧ [D.agg (List.map iD (gotL k))].all D.pure = true)) (by kernel_rfl) ?_
    have e : n.toNat = k := by omega
    rw [e]
    exact ⟨by simpa using h, (), rfl, ⟨rfl, rfl⟩, .inr ⟨rfl, pure_agg _⟩⟩
theorem two2R (n : Int) (k : Nat) (hk : (twoL2 n).ok k) : Tri Try.prog 0 84 (lp Try.f7 15) (tb ((twoL2 n).T k)) ((twoL2 n).S k) ((twoL2 n).q 0 k) := by
  obtain ⟨h1, h2, h3⟩ := hk
  rcases Int.lt_or_le (k : Int) n with h | h
  · refine round0 (C := cfgE lawC22 [(76, .t), (81, .f)]) (ctrs_ok lawC22 rfl rfl) (by kernel_rfl) (by kernel_rfl) (q := decide ((↑k : Int) < n) = true ∧ (0 : Int) ≤ (↑k : Int) ∧ (↑k : Int) < (60 : Int) ∧ ∃ (x : Int), (List.map iD (gotL n.toNat))[(0 : Nat) + (↑k : Int).toNat * (1 : Nat)]? = some (D.int IntKind.i64 x) ∧ decide (x ≠ (1 : Int)) = false ∧ inK IntKind.i64 ((↑k : Int) + (1 : Int)) ∧ ∃ (s' : Nat), ((↑s' : Int) ≤ n ∧ (1 : Int) ≤ n ∧ n ≤ (60 : Int)) ∧ (n.toNat - s').succ ≤ n.toNat - k ∧ () = () ∧ (D.ptr (0 : Nat) (0 : Nat) (0 : Nat) = D.ptr (0 : Nat) (0 : Nat) (0 : Nat) ∧ D.int IntKind.i64 n = D.int IntKind.i64 n ∧ D.int IntKind.i64 (↑s' : Int) = D.int IntKind.i64 ((↑k : Int) + (1 : Int))) ∧ (some (Ob.row St.own (60 : Nat) [D.agg (List.map iD (gotL n.toNat))]) = none ∨ some (Ob.row St.own (60 : Nat) [D.agg (List.map iD (gotL n.toNat))]) = some (Ob.row St.own (60 : Nat) [D.agg (List.map iD (gotL n.toNat))]) ∧ [D.agg (List.map iD (gotL n.toNat))].all D.pure = true)) (by kernel_rfl) ?_
    refine ⟨by simpa using h, by omega, by omega, 1, by rw [List.getElem?_map, show 0 + (k : Int).toNat * 1 = k by omega, got_one (show k < n.toNat by omega)]; rfl, by simp, by simp only [inK]; omega, k + 1, ⟨by omega, h2, h3⟩, by omega, rfl, ⟨rfl, rfl, by simp⟩, .inr ⟨rfl, pure_agg _⟩⟩
  · refine round0 (C := cfgE lawC22 [(76, .f)]) (ctrs_ok lawC22 rfl rfl) (by kernel_rfl) (by kernel_rfl) (q := decide ((↑k : Int) < n) = false ∧ ∃ (a : Unit), () = a ∧ True) (by kernel_rfl) ?_
    exact ⟨by simpa using h, (), rfl, trivial⟩
def twoN' (n : Int) : Int := 1 + wr .u64 n % 60
def twoCfg (n b : Int) : WCfg := { cfgE lawC22 [(15, .w), (28, .f), (32, .f), (37, .f), (42, .f), (49, .f)] with loops := fun j => match j with | 7 => some ((twoL1 (twoN' n) b).row [(0, true)]) | 15 => some ((twoL2 (twoN' n)).row [(0, true)]) | _ => none }
theorem twoLN {n a b : Int} (ha : rI a) (hb : rI b) : (0 : Int) ≤ wr IntKind.u64 n ∧ (0 : Int) < (60 : Int) ∧ inK IntKind.i64 (wr IntKind.u64 n % (60 : Int)) ∧ inK IntKind.i64 ((1 : Int) + wr IntKind.u64 n % (60 : Int)) ∧ (rI ((1 : Int) + wr IntKind.u64 n % (60 : Int)) ∧ rI a ∧ rI b) ∧ decide ((twoM ((1 : Int) + wr IntKind.u64 n % (60 : Int)) a b).fst < (0 : Int)) = false ∧ decide ((twoM ((1 : Int) + wr IntKind.u64 n % (60 : Int)) a b).snd < (0 : Int)) = false ∧ decide ((1 : Int) + wr IntKind.u64 n % (60 : Int) ≤ (twoM ((1 : Int) + wr IntKind.u64 n % (60 : Int)) a b).fst) = false ∧ decide ((1 : Int) + wr IntKind.u64 n % (60 : Int) ≤ (twoM ((1 : Int) + wr IntKind.u64 n % (60 : Int)) a b).snd) = false ∧ (!decide (decide ((twoM ((1 : Int) + wr IntKind.u64 n % (60 : Int)) a b).fst = (twoM ((1 : Int) + wr IntKind.u64 n % (60 : Int)) a b).snd) = decide ((1 : Int) + wr IntKind.u64 n % (60 : Int) = (1 : Int)))) = false ∧ ∃ (b_1 : Nat), ((↑b_1 : Int) ≤ twoN' n ∧ (1 : Int) ≤ twoN' n ∧ twoN' n ≤ (60 : Int) ∧ rI b) ∧ ((D.int IntKind.i64 (twoN' n) = D.int IntKind.i64 ((1 : Int) + wr IntKind.u64 n % (60 : Int)) ∧ D.int IntKind.i64 b = D.int IntKind.i64 b ∧ D.ptr (0 : Nat) (0 : Nat) (0 : Nat) = D.ptr (0 : Nat) (0 : Nat) (0 : Nat) ∧ D.int IntKind.i64 (twoN' n) = D.int IntKind.i64 ((1 : Int) + wr IntKind.u64 n % (60 : Int)) ∧ D.int IntKind.i64 (↑b_1 : Int) = D.int IntKind.i64 (0 : Int)) ∧ (some (Ob.row St.own (60 : Nat) [D.agg (List.map iD (gotL b_1))]) = none ∨ some (Ob.row St.own (60 : Nat) [D.agg (List.map iD (gotL b_1))]) = some (Ob.row St.own (60 : Nat) [D.agg [D.int IntKind.i64 (0 : Int), D.int IntKind.i64 (0 : Int), D.int IntKind.i64 (0 : Int), D.int IntKind.i64 (0 : Int), D.int IntKind.i64 (0 : Int), D.int IntKind.i64 (0 : Int), D.int IntKind.i64 (0 : Int), D.int IntKind.i64 (0 : Int), D.int IntKind.i64 (0 : Int), D.int IntKind.i64 (0 : Int), D.int IntKind.i64 (0 : Int), D.int IntKind.i64 (0 : Int), D.int IntKind.i64 (0 : Int), D.int IntKind.i64 (0 : Int), D.int IntKind.i64 (0 : Int), D.int IntKind.i64 (0 : Int), D.int IntKind.i64 (0 : Int), D.int IntKind.i64 (0 : Int), D.int IntKind.i64 (0 : Int), D.int IntKind.i64 (0 : Int), D.int IntKind.i64 (0 : Int), D.int IntKind.i64 (0 : Int), D.int IntKind.i64 (0 : Int), D.int IntKind.i64 (0 : Int), D.int IntKind.i64 (0 : Int), D.int IntKind.i64 (0 : Int), D.int IntKind.i64 (0 : Int), D.int IntKind.i64 (0 : Int), D.int IntKind.i64 (0 : Int), D.int IntKind.i64 (0 : Int), D.int IntKind.i64 (0 : Int), D.int IntKind.i64 (0 : Int), D.int IntKind.i64 (0 : Int), D.int IntKind.i64 (0 : Int), D.int IntKind.i64 (0 : Int), D.int IntKind.i64 (0 : Int), D.int IntKind.i64 (0 : Int), D.int IntKind.i64 (0 : Int), D.int IntKind.i64 (0 : Int), D.int IntKind.i64 (0 : Int), D.int IntKind.i64 (0 : Int), D.int IntKind.i64 (0 : Int), D.int IntKind.i64 (0 : Int), D.int IntKind.i64 (0 : Int), D.int IntKind.i64 (0 : Int), D.int IntKind.i64 (0 : Int), D.int IntKind.i64 (0 : Int), D.int IntKind.i64 (0 : Int), D.int IntKind.i64 (0 : Int), D.int IntKind.i64 (0 : Int), D.int IntKind.i64 (0 : Int), D.int IntKind.i64 (0 : Int), D.int IntKind.i64 (0 : Int), D.int IntKind.i64 (0 : Int), D.int IntKind.i64 (0 : Int), D.int IntKind.i64 (0 : Int), D.int IntKind.i64 (0 : Int), D.int IntKind.i64 (0 : Int), D.int IntKind.i64 (0 : Int), D.int IntKind.i64 (0 : Int)]]) ∧ true = true)) ∧ ∀ (a : Unit), () = a → ∃ (b : Nat), ((↑b : Int) ≤ twoN' n ∧ (1 : Int) ≤ twoN' n ∧ twoN' n ≤ (60 : Int)) ∧ ((D.ptr (0 : Nat) (0 : Nat) (0 : Nat) = D.ptr (0 : Nat) (0 : Nat) (0 : Nat) ∧ D.int IntKind.i64 (twoN' n) = D.int IntKind.i64 (twoN' n) ∧ D.int IntKind.i64 (↑b : Int) = D.int IntKind.i64 (0 : Int)) ∧ (some (Ob.row St.own (60 : Nat) [D.agg (List.map iD (gotL (twoN' n).toNat))]) = none ∨ some (Ob.row St.own (60 : Nat) [D.agg (List.map iD (gotL (twoN' n).toNat))]) = some (Ob.row St.own (60 : Nat) [D.agg (List.map iD (gotL (twoN' n).toNat))]) ∧ [D.agg (List.map iD (gotL (twoN' n).toNat))].all D.pure = true)) ∧ ∀ (a : Unit), () = a → True ∧ D.bool true = D.bool true := by
  have w0 : 0 ≤ wr .u64 n := by simp only [wr]; omega
  have e : 1 + wr .u64 n % 60 = twoN' n := rfl
  have n0 : 1 ≤ twoN' n ∧ twoN' n ≤ 60 := by unfold twoN'; omega
  have ti := twoM_in (a := a) (b := b) n0.1
  have tk : 2 ≤ twoN' n → (twoM (twoN' n) a b).1 ≠ (twoM (twoN' n) a b).2 := fun h => (twoM_ok h).2.2.2.2
  have t1 : twoN' n = 1 → (twoM (twoN' n) a b).1 = (twoM (twoN' n) a b).2 := fun h => by rw [h]; rfl
  refine ⟨w0, by decide, by simp only [inK]; omega, ?_⟩
  rw [e]
  refine ⟨by simp only [inK]; omega, ⟨by unfold rI; omega, ha, hb⟩, by simp; omega, by simp; omega, by simp; omega, by simp; omega, ?_, 0, ⟨by omega, n0.1, n0.2, hb⟩, ⟨⟨rfl, rfl, rfl, rfl, rfl⟩, .inr ⟨rfl, rfl⟩⟩, fun _ _ => ⟨0, ⟨by omega, n0.1, n0.2⟩, ⟨⟨rfl, rfl, rfl⟩, .inr ⟨rfl, pure_agg _⟩⟩, fun _ _ => ⟨trivial, rfl⟩⟩⟩
  rw [Bool.not_eq_false', decide_eq_true_eq]
  exact decide_eq_decide.2 ⟨fun h => by rcases Int.lt_or_le (twoN' n) 2 with h2 | h2 <;> first | omega | exact absurd h (tk h2), fun h => t1 h⟩
theorem leastTwo_law {x0 : List D} (o0 : Ok [.int .i64] x0) {x1 : List D} (o1 : Ok [.int .i64] x1) {x2 : List D} (o2 : Ok [.int .i64] x2) : DataFun Try.prog 7 [vOf false x0, vOf false x1, vOf false x2] (.bool true) := by
  obtain ⟨n, rfl, _⟩ := ok1_int o0
  obtain ⟨a, rfl, ha⟩ := ok1_int o1
  obtain ⟨b, rfl, hb⟩ := ok1_int o2
  refine dataFunL (C := twoCfg n b) (ctrs_ok lawC22 rfl rfl) rfl Try.func7 (by kernel_rfl) (l := [lp Try.f7 7, lp Try.f7 15]) (by kernel_rfl) ?_ (by kernel_rfl) (by kernel_rfl) (by kernel_rfl) (twoLN (n := n) ha hb)
  intro x hx
  rcases List.mem_cons.1 hx with rfl | hx
  · exact (twoL1 (twoN' n) b).fits 7 [(0, true)] (by kernel_rfl) rfl (two1R _ _)
  · rw [List.mem_singleton.1 hx]; exact (twoL2 (twoN' n)).fits 15 [(0, true)] (by kernel_rfl) rfl (two2R _)
end Go.Proofs.Ytfjgngdomjjpgaa.Dv
