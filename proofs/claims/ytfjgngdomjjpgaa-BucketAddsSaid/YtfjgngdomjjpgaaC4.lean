/- How requests went: in any order. -/
import Derived.Test.YtfjgngdomjjpgaaC3
set_option linter.unusedVariables false
set_option linter.unusedSimpArgs false
namespace Go.Proofs.Ytfjgngdomjjpgaa.Dv
open Go Go.Proofs
def rot (l : List Bool) (k : Nat) : List Bool := l.drop k ++ l.take k
def addsT (f : Bool) (l : List Bool) (n : Int) (k i : Nat) : List (Nat × D) := [(0, .sl f (l.map bD)), (2, .int .i64 n), (7, .int .i64 k), (8, .ptr 0 0 0), (9, .ptr 1 0 0), (24, .int .i64 l.length), (25, .int .i64 i)]
def addsS (l : List Bool) (k i : Nat) : Store := [some (.row .own 2 [bkD (cT (l.take i)) i]), some (.row .own 2 [bkD (cT ((rot l k).take i)) i])]
def addsL (f : Bool) (l : List Bool) (n : Int) (k : Nat) : WLoop := { St := Nat, O := Unit, T := addsT f l n k, S := addsS l k, ok := fun i => i ≤ l.length ∧ l.length ≤ 200 ∧ k ≤ l.length, μ := fun i => l.length - i, m := fun _ => (), src := [(0, true), (1, true)]
                                                                      outs := [{ α := Unit, is := Eq, ex := .exit 0, src := [(0, true), (1, true)], T := fun _ => [(0, .sl f (l.map bD)), (2, .int .i64 n), (8, .ptr 0 0 0), (9, .ptr 1 0 0)], S := fun _ => addsS l k l.length }] }
theorem rot_get {l : List Bool} {k i : Nat} (hk : k ≤ l.length) (hi : i < l.length) : l[(i + k) % l.length]? = (rot l k)[i]? := by
  unfold rot
  rcases Nat.lt_or_ge (i + k) l.length with h | h
  · rw [Nat.mod_eq_of_lt h, List.getElem?_append_left (by simp; omega), List.getElem?_drop, Nat.add_comm]
  · rw [Nat.mod_eq_sub_mod h, Nat.mod_eq_of_lt (by omega), List.getElem?_append_right (by simp; omega), List.getElem?_take_of_lt (by simp; omega)]
    simp
    congr 1
    omega
theorem take_succ {l : List Bool} {i : Nat} {x : Bool} (h : l[i]? = some x) : l.take (i + 1) = l.take i ++ [x] := by
  rw [List.take_add_one, h]; rfl
theorem addsR (f : Bool) (l : List Bool) (n : Int) (k : Nat) (i : Nat) (hi : (addsL f l n k).ok i) : Tri Try.prog 0 81 (lp Try.f12 6) (tb ((addsL f l n k).T i)) ((addsL f l n k).S i) ((addsL f l n k).q 0 i) := by
  obtain ⟨h1, h2, h3⟩ := hi
  have hl : (rot l k).length = l.length := by simp [rot]; omega
  rcases Nat.lt_or_ge i l.length with h | h
  · refine round0 (C := cfgH lawC12 [(26, .t)]) (ctrs_ok lawC12 rfl rfl) (by kernel_rfl) (by kernel_rfl) (q := decide ((↑i : Int) < (↑l.length : Int)) = true ∧ ∃ (y : Bool), (0 : Int) ≤ (↑i : Int) ∧ (List.map bD l)[(↑i : Int).toNat]? = some (D.bool y) ∧ True ∧ inK IntKind.i64 ((↑i : Int) + (↑k : Int)) ∧ (0 : Int) ≤ (↑i : Int) + (↑k : Int) ∧ (0 : Int) < (↑(List.map bD l).length : Int) ∧ ∃ (y_1 : Bool), (0 : Int) ≤ ((↑i : Int) + (↑k : Int)) % (↑(List.map bD l).length : Int) ∧ (List.map bD l)[(((↑i : Int) + (↑k : Int)) % (↑(List.map bD l).length : Int)).toNat]? = some (D.bool y_1) ∧ True ∧ inK IntKind.i64 ((↑i : Int) + (1 : Int)) ∧ ∃ (s' : Nat), (s' ≤ l.length ∧ l.length ≤ (200 : Nat) ∧ k ≤ l.length) ∧ (l.length - s').succ ≤ l.length - i ∧ () = () ∧ (D.sl f (List.map bD l) = D.sl f (List.map bD l) ∧ D.int IntKind.i64 n = D.int IntKind.i64 n ∧ D.int IntKind.i64 (↑k : Int) = D.int IntKind.i64 (↑k : Int) ∧ D.ptr (0 : Nat) (0 : Nat) (0 : Nat) = D.ptr (0 : Nat) (0 : Nat) (0 : Nat) ∧ D.ptr (1 : Nat) (0 : Nat) (0 : Nat) = D.ptr (1 : Nat) (0 : Nat) (0 : Nat) ∧ D.int IntKind.i64 (↑l.length : Int) = D.int IntKind.i64 (↑l.length : Int) ∧ D.int IntKind.i64 (↑s' : Int) = D.int IntKind.i64 ((↑i : Int) + (1 : Int))) ∧ (some (Ob.row St.own (2 : Nat) [D.agg [D.int IntKind.i64 (cT (List.take s' l)), D.int IntKind.i64 (↑s' : Int)]]) = none ∨ some (Ob.row St.own (2 : Nat) [D.agg [D.int IntKind.i64 (cT (List.take s' l)), D.int IntKind.i64 (↑s' : Int)]]) = some (Ob.row St.own (2 : Nat) [D.agg [D.int IntKind.i64 (noteB (cT (List.take i l)) (↑i : Int) y).fst, D.int IntKind.i64 (noteB (cT (List.take i l)) (↑i : Int) y).snd]]) ∧ true = true) ∧ (some (Ob.row St.own (2 : Nat) [D.agg [D.int IntKind.i64 (cT (List.take s' (rot l k))), D.int IntKind.i64 (↑s' : Int)]]) = none ∨ some (Ob.row St.own (2 : Nat) [D.agg [D.int IntKind.i64 (cT (List.take s' (rot l k))), D.int IntKind.i64 (↑s' : Int)]]) = some (Ob.row St.own (2 : Nat) [D.agg [D.int IntKind.i64 (noteB (cT (List.take i (rot l k))) (↑i : Int) y_1).fst, D.int IntKind.i64 (noteB (cT (List.take i (rot l k))) (↑i : Int) y_1).snd]]) ∧ true = true)) (by kernel_rfl) ?_
    obtain ⟨x, hx⟩ : ∃ x, l[i]? = some x := ⟨_, List.getElem?_eq_getElem h⟩
    obtain ⟨y, hy⟩ : ∃ y, (rot l k)[i]? = some y := ⟨_, List.getElem?_eq_getElem (by omega)⟩
    have c1 := cT_le (l.take i)
    have c2 := cT_le ((rot l k).take i)
    rw [List.length_take] at c1 c2
    have e : (((i : Int) + k) % (l.length : Int)).toNat = (i + k) % l.length := by rw [show ((i : Int) + k) % (l.length : Int) = (((i + k) % l.length : Nat) : Int) by push_cast; rfl, Int.toNat_natCast]
    have hn0 : (l.length : Int) ≠ 0 := by omega
    have p0 := Int.emod_nonneg ((i : Int) + k) (show (l.length : Int) ≠ 0 by omega)
    refine ⟨by simpa using h, ?_⟩
    simp only [List.length_map, inK, rI]
    refine ⟨x, by omega, by simp [hx, bD], ?_⟩
    repeat (refine And.intro (by first | omega | rfl | trivial | (simp only [D.bool.injEq, D.int.injEq, D.tup.injEq, D.agg.injEq, D.str.injEq, D.sl.injEq, List.cons.injEq, true_and, and_true, decide_eq_true_eq, decide_eq_false_iff_not, false_eq_decide_iff, true_eq_decide_iff, decide_eq_decide, Bool.false_eq_true, Bool.true_eq_false, not_false_eq_true, not_true_eq_false, inK, rI, Bool.not_eq_false', Bool.not_eq_true', Bool.not_true, Bool.not_false, ne_eq, Decidable.not_not]; omega)) ?_)
    refine ⟨y, by omega, by rw [e, List.getElem?_map, rot_get h3 h, hy]; rfl, ?_⟩
    repeat (refine And.intro (by first | omega | rfl | trivial | (simp only [D.bool.injEq, D.int.injEq, D.tup.injEq, D.agg.injEq, D.str.injEq, D.sl.injEq, List.cons.injEq, true_and, and_true, decide_eq_true_eq, decide_eq_false_iff_not, false_eq_decide_iff, true_eq_decide_iff, decide_eq_decide, Bool.false_eq_true, Bool.true_eq_false, not_false_eq_true, not_true_eq_false, inK, rI, Bool.not_eq_false', Bool.not_eq_true', Bool.not_true, Bool.not_false, ne_eq, Decidable.not_not]; omega)) ?_)
    refine ⟨i + 1, by omega, by omega, trivial, ?_⟩
    rw [noteB_ok x (by omega) (by omega) (by omega), noteB_ok y (by omega) (by omega) (by omega), take_succ hx, take_succ hy, cT_snoc, cT_snoc]
    simp [D.pure, D.pleaf]
  · refine round0 (C := cfgH lawC12 [(26, .f)]) (ctrs_ok lawC12 rfl rfl) (by kernel_rfl) (by kernel_rfl) (q := decide ((↑i : Int) < (↑l.length : Int)) = false ∧ ∃ (a : Unit), () = a ∧ (D.sl f (List.map bD l) = D.sl f (List.map bD l) ∧ D.int IntKind.i64 n = D.int IntKind.i64 n ∧ D.ptr (0 : Nat) (0 : Nat) (0 : Nat) = D.ptr (0 : Nat) (0 : Nat) (0 : Nat) ∧ D.ptr (1 : Nat) (0 : Nat) (0 : Nat) = D.ptr (1 : Nat) (0 : Nat) (0 : Nat)) ∧ (some (Ob.row St.own (2 : Nat) [D.agg [D.int IntKind.i64 (cT (List.take l.length l)), D.int IntKind.i64 (↑l.length : Int)]]) = none ∨ some (Ob.row St.own (2 : Nat) [D.agg [D.int IntKind.i64 (cT (List.take l.length l)), D.int IntKind.i64 (↑l.length : Int)]]) = some (Ob.row St.own (2 : Nat) [D.agg [D.int IntKind.i64 (cT (List.take i l)), D.int IntKind.i64 (↑i : Int)]]) ∧ true = true) ∧ (some (Ob.row St.own (2 : Nat) [D.agg [D.int IntKind.i64 (cT (List.take l.length (rot l k))), D.int IntKind.i64 (↑l.length : Int)]]) = none ∨ some (Ob.row St.own (2 : Nat) [D.agg [D.int IntKind.i64 (cT (List.take l.length (rot l k))), D.int IntKind.i64 (↑l.length : Int)]]) = some (Ob.row St.own (2 : Nat) [D.agg [D.int IntKind.i64 (cT (List.take i (rot l k))), D.int IntKind.i64 (↑i : Int)]]) ∧ true = true)) (by kernel_rfl) ?_
    have e : i = l.length := by omega
    subst e
    exact ⟨by simp, (), rfl, ⟨rfl, rfl, rfl, rfl⟩, .inr ⟨rfl, rfl⟩, .inr ⟨rfl, rfl⟩⟩
def addsCfg (f : Bool) (l : List Bool) (n : Int) (k : Nat) : WCfg := { cfgH lawC12 [(13, .f), (16, .w), (47, .w), (54, .t), (61, .t), (71, .t), (78, .t), (22, .n), (49, .n)] with loops := fun j => match j with | 6 => some ((addsL f l n k).row [(0, true), (1, true)]) | _ => none }
theorem addsN (f : Bool) (l : List Bool) (t n : Int) (hl : l.length ≤ 200) : decide ((200 : Int) < (↑(List.map bD l).length : Int)) = false ∧ inK IntKind.i64 ((↑(List.map bD l).length : Int) + (1 : Int)) ∧ inK IntKind.u64 ((↑(List.map bD l).length : Int) + (1 : Int)) ∧ (0 : Int) ≤ wr IntKind.u64 t ∧ (0 : Int) < (↑(List.map bD l).length : Int) + (1 : Int) ∧ inK IntKind.i64 (wr IntKind.u64 t % ((↑(List.map bD l).length : Int) + (1 : Int))) ∧ ∀ (v : Int), v = wr IntKind.u64 t % ((↑(List.map bD l).length : Int) + (1 : Int)) → ∃ (b : Nat), (b ≤ l.length ∧ l.length ≤ (200 : Nat) ∧ (wr IntKind.u64 t % ((↑l.length : Int) + (1 : Int))).toNat ≤ l.length) ∧ ((D.sl f (List.map bD l) = D.sl f (List.map bD l) ∧ D.int IntKind.i64 n = D.int IntKind.i64 n ∧ D.int IntKind.i64 (↑(wr IntKind.u64 t % ((↑l.length : Int) + (1 : Int))).toNat : Int) = D.int IntKind.i64 v ∧ D.ptr (0 : Nat) (0 : Nat) (0 : Nat) = D.ptr (0 : Nat) (0 : Nat) (0 : Nat) ∧ D.ptr (1 : Nat) (0 : Nat) (0 : Nat) = D.ptr (1 : Nat) (0 : Nat) (0 : Nat) ∧ D.int IntKind.i64 (↑l.length : Int) = D.int IntKind.i64 (↑(List.map bD l).length : Int) ∧ D.int IntKind.i64 (↑b : Int) = D.int IntKind.i64 (0 : Int)) ∧ (some (Ob.row St.own (2 : Nat) [D.agg [D.int IntKind.i64 (cT (List.take b l)), D.int IntKind.i64 (↑b : Int)]]) = none ∨ some (Ob.row St.own (2 : Nat) [D.agg [D.int IntKind.i64 (cT (List.take b l)), D.int IntKind.i64 (↑b : Int)]]) = some (Ob.row St.own (2 : Nat) [D.agg [D.int IntKind.i64 (0 : Int), D.int IntKind.i64 (0 : Int)]]) ∧ true = true) ∧ (some (Ob.row St.own (2 : Nat) [D.agg [D.int IntKind.i64 (cT (List.take b (rot l (wr IntKind.u64 t % ((↑l.length : Int) + (1 : Int))).toNat))), D.int IntKind.i64 (↑b : Int)]]) = none ∨ some (Ob.row St.own (2 : Nat) [D.agg [D.int IntKind.i64 (cT (List.take b (rot l (wr IntKind.u64 t % ((↑l.length : Int) + (1 : Int))).toNat))), D.int IntKind.i64 (↑b : Int)]]) = some (Ob.row St.own (2 : Nat) [D.agg [D.int IntKind.i64 (0 : Int), D.int IntKind.i64 (0 : Int)]]) ∧ true = true)) ∧ ∀ (a : Unit), () = a → (0 : Int) ≤ wr IntKind.u64 n ∧ (0 : Int) < (300 : Int) ∧ inK IntKind.i64 (wr IntKind.u64 n % (300 : Int)) ∧ ∀ (v : Int), v = wr IntKind.u64 n % (300 : Int) → inK IntKind.i64 ((1 : Int) + v) ∧ [decide (cT (List.take l.length l) = cT (List.take l.length (rot l (wr IntKind.u64 t % ((↑l.length : Int) + (1 : Int))).toNat))), decide ((↑l.length : Int) = (↑l.length : Int))].all id = true ∧ decide ((↑l.length : Int) = (↑(List.map bD l).length : Int)) = true ∧ True ∧ decide (enoughB (cT (List.take l.length l)) (↑l.length : Int) ((1 : Int) + v) = decide ((1 : Int) + v ≤ (↑(List.map bD l).length : Int))) = true ∧ (rI (cT (List.take l.length l)) ∧ rI (↑l.length : Int)) ∧ (rI (cT (List.take l.length (rot l (wr IntKind.u64 t % ((↑l.length : Int) + (1 : Int))).toNat))) ∧ rI (↑l.length : Int)) ∧ decide (rateB (cT (List.take l.length l)) (↑l.length : Int) = rateB (cT (List.take l.length (rot l (wr IntKind.u64 t % ((↑l.length : Int) + (1 : Int))).toNat))) (↑l.length : Int)) = true ∧ True ∧ D.bool true = D.bool true := by
  have hk0 : 0 ≤ wr .u64 t % ((l.length : Int) + 1) := Int.emod_nonneg _ (by omega)
  have hk1 : wr .u64 t % ((l.length : Int) + 1) < (l.length : Int) + 1 := Int.emod_lt_of_pos _ (by omega)
  have hc := cT_le l
  simp only [List.length_map, inK, rI]
  have hw : 0 ≤ wr .u64 t := by simp only [wr]; omega
  have hw2 : 0 ≤ wr .u64 n := by simp only [wr]; omega
  repeat (refine And.intro (by first | omega | rfl | trivial | (simp only [D.bool.injEq, D.int.injEq, D.tup.injEq, D.agg.injEq, D.str.injEq, D.sl.injEq, List.cons.injEq, true_and, and_true, decide_eq_true_eq, decide_eq_false_iff_not, false_eq_decide_iff, true_eq_decide_iff, decide_eq_decide, Bool.false_eq_true, Bool.true_eq_false, not_false_eq_true, not_true_eq_false, inK, rI, Bool.not_eq_false', Bool.not_eq_true', Bool.not_true, Bool.not_false, ne_eq, Decidable.not_not]; omega)) ?_)
  intro k hk
  rw [← hk] at hk0 hk1 ⊢
  refine ⟨0, ⟨by omega, hl, by omega⟩, ?_, ?_⟩
  · simp [cT]; omega
  intro a _
  have hrl : (rot l k.toNat).length = l.length := by simp [rot]; omega
  have er : cT (List.take l.length (rot l k.toNat)) = cT l := by
    rw [List.take_of_length_le (by omega)]
    unfold rot cT
    rw [List.count_append, Nat.add_comm, ← List.count_append, List.take_append_drop]
  rw [er, List.take_length]
  have hm : mayB (cT l) l.length = true := decide_eq_true ⟨hc.1, hc.2, by omega⟩
  repeat (refine And.intro (by first | omega | rfl | trivial | (simp only [D.bool.injEq, D.int.injEq, D.tup.injEq, D.agg.injEq, D.str.injEq, D.sl.injEq, List.cons.injEq, true_and, and_true, decide_eq_true_eq, decide_eq_false_iff_not, false_eq_decide_iff, true_eq_decide_iff, decide_eq_decide, Bool.false_eq_true, Bool.true_eq_false, not_false_eq_true, not_true_eq_false, inK, rI, Bool.not_eq_false', Bool.not_eq_true', Bool.not_true, Bool.not_false, ne_eq, Decidable.not_not]; omega)) ?_)
  intro v hv
  have he : enoughB (cT l) l.length (1 + v) = decide (1 + v ≤ (l.length : Int)) := by
    unfold enoughB
    rw [hm]
    exact decide_eq_decide.2 (by simp; omega)
  rw [he]
  simp [hc]
  omega
theorem addsBig (f : Bool) (l : List Bool) (t n : Int) (hl : 200 < l.length) : decide ((200 : Int) < (↑(List.map bD l).length : Int)) = true ∧ True ∧ D.bool true = D.bool true := ⟨by simp; omega, trivial, rfl⟩
theorem bucketAdds_law {x0 : List D} (o0 : Ok [.sl false [.bool]] x0) {x1 : List D} (o1 : Ok [.int .i64] x1) {x2 : List D} (o2 : Ok [.int .i64] x2) : DataFun Try.prog 12 [vOf false x0, vOf false x1, vOf false x2] (.bool true) := by
  cases o0 with | sl hl h1 h2 t =>
  cases t
  obtain ⟨l, rfl⟩ := ok_bools h1 h2
  rename_i f
  cases o1 with | int k0 t0 =>
  cases t0
  cases o2 with | int k1 t1 =>
  cases t1
  rename_i t n
  rcases Nat.lt_or_ge 200 l.length with h | h
  · exact dataFunL (C := cfgH lawC12 [(13, .t)]) (ctrs_ok lawC12 rfl rfl) rfl Try.func12 (by kernel_rfl) (l := [lp Try.f12 6]) (by kernel_rfl) (fun x _ row hr => by cases hr) (by kernel_rfl) (by kernel_rfl) (by kernel_rfl) (addsBig f l t n h)
  · refine dataFunL (C := addsCfg f l n (wr .u64 t % (l.length + 1)).toNat) (ctrs_ok lawC12 rfl rfl) rfl Try.func12 (by kernel_rfl) (l := [lp Try.f12 6]) (by kernel_rfl) ?_ (by kernel_rfl) (by kernel_rfl) (by kernel_rfl) (addsN f l t n h)
    intro x hx
    rw [List.mem_singleton.1 hx]
    exact (addsL f l n _).fits 6 [(0, true), (1, true)] (by kernel_rfl) rfl (addsR f l n _)
end Go.Proofs.Ytfjgngdomjjpgaa.Dv
