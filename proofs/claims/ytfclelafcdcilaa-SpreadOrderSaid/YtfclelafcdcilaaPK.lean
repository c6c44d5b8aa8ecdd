/- SpreadOrder. -/
import Derived.Test.YtfclelafcdcilaaPM
set_option linter.unusedVariables false
set_option linter.unusedSimpArgs false
namespace Go.Proofs.Ytfclelafcdcilaa.Dv
open Go Go.Proofs
noncomputable def soC : List Ctr := [mayCfgC', enoughC', rateC', badC, aw13]
noncomputable def soCfg0 (h : List (Nat × Hn)) : WCfg := rCfg soC h
/-! ### where a host stands -/
def so10 (c : Cfg) (g : Bool) (l : List Rtd) (more : Int) (fB : Bool) (B : List Int) (last : Rtd) (i : Nat) (id : Int) (n : Nat) : WLoop :=
  { St := List Rtd × List Rtd × Int
    O := Unit
    T := fun s => [(1, .sl g (l.map rtD)), (2, .int .i64 more), (3, .ptr 0 0 0), (7, .sl fB (B.map iD)), (8, .ptr 1 0 0), (9, .int .i64 i), (10, .int .i64 id), (11, .int .i64 s.2.2), (30, .sl fB (B.map iD)), (31, .int .i64 (B.map iD).length), (32, .int .i64 i), (37, .sl g (l.map rtD)), (38, .int .i64 (l.map rtD).length), (39, .int .i64 s.1.length)]
    S := fun s => [cRow c, some (.row .own 3 [rtD last])]
    ok := fun s => s.1 ++ s.2.1 = l ∧ s.2.2 = (if n < s.1.length then (n : Int) else -1) ∧ l.length ≤ 500
    μ := fun s => s.2.1.length
    m := fun s => ()
    src := [(0, true), (1, true)]
    outs := [{ α := Unit, is := fun _ _ => True, ex := .exit 2, src := [(0, true), (1, true)], T := fun _ => [(1, .sl g (l.map rtD)), (2, .int .i64 more), (3, .ptr 0 0 0), (7, .sl fB (B.map iD)), (8, .ptr 1 0 0), (9, .int .i64 i), (10, .int .i64 id), (11, .int .i64 n), (30, .sl fB (B.map iD)), (31, .int .i64 (B.map iD).length), (32, .int .i64 i)], S := fun _ => [cRow c, some (.row .own 3 [rtD last])] }] }
theorem so10R (c : Cfg) (g : Bool) (l : List Rtd) (more : Int) (fB : Bool) (B : List Int) (last : Rtd) (i : Nat) (id : Int) (n : Nat) (hn : n < l.length) (hu : ∀ (j : Nat) (y : Rtd), l[j]? = some y → (y.1 = id ↔ j = n)) (s : (so10 c g l more fB B last i id n).St) (hs : (so10 c g l more fB B last i id n).ok s) : Tri Try.prog 0 120 (lp Try.f5 10) (tb ((so10 c g l more fB B last i id n).T s)) ((so10 c g l more fB B last i id n).S s) ((so10 c g l more fB B last i id n).q 0 s) := by
  obtain ⟨b, r, at0⟩ := s
  obtain ⟨h1, h2, h3⟩ := hs
  simp only at h1 h2
  have hL : (List.map rtD l).length = l.length := List.length_map ..
  cases r with
  | nil =>
    rw [List.append_nil] at h1
    subst h1
    rw [if_pos hn] at h2
    subst h2
    refine round0 (C := soCfg0 [(40, .f)]) (ctrs_ok (soC) rfl rfl) (by kernel_rfl) (by kernel_rfl) (q := decide ((↑b.length : Int) < (↑(List.map rtD b).length : Int)) = false ∧ ∃ (a : Unit), True ∧ (D.sl g (List.map rtD b) = D.sl g (List.map rtD b) ∧ D.int IntKind.i64 more = D.int IntKind.i64 more ∧ D.ptr (0 : Nat) (0 : Nat) (0 : Nat) = D.ptr (0 : Nat) (0 : Nat) (0 : Nat) ∧ D.sl fB (List.map iD B) = D.sl fB (List.map iD B) ∧ D.ptr (1 : Nat) (0 : Nat) (0 : Nat) = D.ptr (1 : Nat) (0 : Nat) (0 : Nat) ∧ D.int IntKind.i64 (↑i : Int) = D.int IntKind.i64 (↑i : Int) ∧ D.int IntKind.i64 id = D.int IntKind.i64 id ∧ D.int IntKind.i64 (↑n : Int) = D.int IntKind.i64 (↑n : Int) ∧ D.sl fB (List.map iD B) = D.sl fB (List.map iD B) ∧ D.int IntKind.i64 (↑(List.map iD B).length : Int) = D.int IntKind.i64 (↑(List.map iD B).length : Int) ∧ D.int IntKind.i64 (↑i : Int) = D.int IntKind.i64 (↑i : Int)) ∧ (some (Ob.row St.own (23 : Nat) [c.toD]) = none ∨ some (Ob.row St.own (23 : Nat) [c.toD]) = some (Ob.row St.own (23 : Nat) [c.toD]) ∧ true = true) ∧ (some (Ob.row St.own (3 : Nat) [D.agg [D.int IntKind.i64 last.fst, D.int IntKind.i64 last.snd.fst, D.int IntKind.i64 last.snd.snd]]) = none ∨ some (Ob.row St.own (3 : Nat) [D.agg [D.int IntKind.i64 last.fst, D.int IntKind.i64 last.snd.fst, D.int IntKind.i64 last.snd.snd]]) = some (Ob.row St.own (3 : Nat) [D.agg [D.int IntKind.i64 last.fst, D.int IntKind.i64 last.snd.fst, D.int IntKind.i64 last.snd.snd]]) ∧ true = true)) (by kernel_rfl) ?_
    exact ⟨decide_eq_false (by omega), (), trivial, ⟨rfl, rfl, rfl, rfl, rfl, rfl, rfl, rfl, rfl, rfl, rfl⟩, .inr ⟨rfl, rfl⟩, .inr ⟨rfl, rfl⟩⟩
  | cons y r =>
    refine round0 (C := soCfg0 [(40, .t)]) (ctrs_ok (soC) rfl rfl) (by kernel_rfl) (by kernel_rfl) (q := decide ((↑b.length : Int) < (↑(List.map rtD l).length : Int)) = true ∧ ∃ (y_1 : Int × Int × Int), (0 : Int) ≤ (↑b.length : Int) ∧ (List.map rtD l)[(↑b.length : Int).toNat]? = some (D.agg [D.int IntKind.i64 y_1.fst, D.int IntKind.i64 y_1.snd.fst, D.int IntKind.i64 y_1.snd.snd]) ∧ (decide (y_1.fst = id) = true → inK IntKind.i64 ((↑b.length : Int) + (1 : Int)) ∧ ∃ (s' : List Rtd × List Rtd × Int), (s'.fst ++ s'.snd.fst = l ∧ (s'.snd.snd = if n < s'.fst.length then (↑n : Int) else (-1 : Int)) ∧ l.length ≤ (500 : Nat)) ∧ s'.snd.fst.length.succ ≤ (y :: r).length ∧ () = () ∧ (D.sl g (List.map rtD l) = D.sl g (List.map rtD l) ∧ D.int IntKind.i64 more = D.int IntKind.i64 more ∧ D.ptr (0 : Nat) (0 : Nat) (0 : Nat) = D.ptr (0 : Nat) (0 : Nat) (0 : Nat) ∧ D.sl fB (List.map iD B) = D.sl fB (List.map iD B) ∧ D.ptr (1 : Nat) (0 : Nat) (0 : Nat) = D.ptr (1 : Nat) (0 : Nat) (0 : Nat) ∧ D.int IntKind.i64 (↑i : Int) = D.int IntKind.i64 (↑i : Int) ∧ D.int IntKind.i64 id = D.int IntKind.i64 id ∧ D.int IntKind.i64 s'.snd.snd = D.int IntKind.i64 (↑b.length : Int) ∧ D.sl fB (List.map iD B) = D.sl fB (List.map iD B) ∧ D.int IntKind.i64 (↑(List.map iD B).length : Int) = D.int IntKind.i64 (↑(List.map iD B).length : Int) ∧ D.int IntKind.i64 (↑i : Int) = D.int IntKind.i64 (↑i : Int) ∧ D.sl g (List.map rtD l) = D.sl g (List.map rtD l) ∧ D.int IntKind.i64 (↑(List.map rtD l).length : Int) = D.int IntKind.i64 (↑(List.map rtD l).length : Int) ∧ D.int IntKind.i64 (↑s'.fst.length : Int) = D.int IntKind.i64 ((↑b.length : Int) + (1 : Int))) ∧ (some (Ob.row St.own (23 : Nat) [c.toD]) = none ∨ some (Ob.row St.own (23 : Nat) [c.toD]) = some (Ob.row St.own (23 : Nat) [c.toD]) ∧ true = true) ∧ (some (Ob.row St.own (3 : Nat) [D.agg [D.int IntKind.i64 last.fst, D.int IntKind.i64 last.snd.fst, D.int IntKind.i64 last.snd.snd]]) = none ∨ some (Ob.row St.own (3 : Nat) [D.agg [D.int IntKind.i64 last.fst, D.int IntKind.i64 last.snd.fst, D.int IntKind.i64 last.snd.snd]]) = some (Ob.row St.own (3 : Nat) [D.agg [D.int IntKind.i64 last.fst, D.int IntKind.i64 last.snd.fst, D.int IntKind.i64 last.snd.snd]]) ∧ true = true)) ∧ (decide (y_1.fst = id) = false → inK IntKind.i64 ((↑b.length : Int) + (1 : Int)) ∧ ∃ (s' : List Rtd × List Rtd × Int), (s'.fst ++ s'.snd.fst = l ∧ (s'.snd.snd = if n < s'.fst.length then (↑n : Int) else (-1 : Int)) ∧ l.length ≤ (500 : Nat)) ∧ s'.snd.fst.length.succ ≤ (y :: r).length ∧ () = () ∧ (D.sl g (List.map rtD l) = D.sl g (List.map rtD l) ∧ D.int IntKind.i64 more = D.int IntKind.i64 more ∧ D.ptr (0 : Nat) (0 : Nat) (0 : Nat) = D.ptr (0 : Nat) (0 : Nat) (0 : Nat) ∧ D.sl fB (List.map iD B) = D.sl fB (List.map iD B) ∧ D.ptr (1 : Nat) (0 : Nat) (0 : Nat) = D.ptr (1 : Nat) (0 : Nat) (0 : Nat) ∧ D.int IntKind.i64 (↑i : Int) = D.int IntKind.i64 (↑i : Int) ∧ D.int IntKind.i64 id = D.int IntKind.i64 id ∧ D.int IntKind.i64 s'.snd.snd = D.int IntKind.i64 at0 ∧ D.sl fB (List.map iD B) = D.sl fB (List.map iD B) ∧ D.int IntKind.i64 (↑(List.map iD B).length : Int) = D.int IntKind.i64 (↑(List.map iD B).length : Int) ∧ D.int IntKind.i64 (↑i : Int) = D.int IntKind.i64 (↑i : Int) ∧ D.sl g (List.map rtD l) = D.sl g (List.map rtD l) ∧ D.int IntKind.i64 (↑(List.map rtD l).length : Int) = D.int IntKind.i64 (↑(List.map rtD l).length : Int) ∧ D.int IntKind.i64 (↑s'.fst.length : Int) = D.int IntKind.i64 ((↑b.length : Int) + (1 : Int))) ∧ (some (Ob.row St.own (23 : Nat) [c.toD]) = none ∨ some (Ob.row St.own (23 : Nat) [c.toD]) = some (Ob.row St.own (23 : Nat) [c.toD]) ∧ true = true) ∧ (some (Ob.row St.own (3 : Nat) [D.agg [D.int IntKind.i64 last.fst, D.int IntKind.i64 last.snd.fst, D.int IntKind.i64 last.snd.snd]]) = none ∨ some (Ob.row St.own (3 : Nat) [D.agg [D.int IntKind.i64 last.fst, D.int IntKind.i64 last.snd.fst, D.int IntKind.i64 last.snd.snd]]) = some (Ob.row St.own (3 : Nat) [D.agg [D.int IntKind.i64 last.fst, D.int IntKind.i64 last.snd.fst, D.int IntKind.i64 last.snd.snd]]) ∧ true = true))) (by kernel_rfl) ?_
    have hal : b.length + (r.length + 1) = l.length := by rw [← h1]; simp
    have hg : (List.map rtD l)[((b.length : Int)).toNat]? = some (rtD y) := by rw [← h1]; exact get_midI rtD b y r
    have hy : l[b.length]? = some y := by rw [← h1]; simp
    have hbl : (b ++ [y]).length = b.length + 1 := by simp
    have hix : D.int .i64 ((b ++ [y]).length : Int) = D.int .i64 ((b.length : Int) + 1) := by simp
    have hin : inK .i64 ((b.length : Int) + 1) := by simp only [inK]; omega
    have hok : (b ++ [y]) ++ r = l := by rw [← h1]; simp
    have hiff := hu _ y hy
    refine ⟨decide_eq_true (by omega), y, by omega, hg, fun he => ?_, fun he => ?_⟩
    · have hbn : b.length = n := hiff.1 (of_decide_eq_true he)
      exact ⟨hin, (b ++ [y], r, (b.length : Int)), ⟨hok, by show _ = if n < (b ++ [y]).length then _ else _; rw [hbl, if_pos (by omega), hbn], h3⟩, Nat.le_refl _, rfl, ⟨rfl, rfl, rfl, rfl, rfl, rfl, rfl, rfl, rfl, rfl, rfl, rfl, rfl, hix⟩, .inr ⟨rfl, rfl⟩, .inr ⟨rfl, rfl⟩⟩
    · have hbn : ¬ b.length = n := fun h => of_decide_eq_false he (hiff.2 h)
      have e2 : (if n < (b ++ [y]).length then (n : Int) else -1) = if n < b.length then (n : Int) else -1 := by
        rw [hbl]
        by_cases h : n < b.length
        · rw [if_pos h, if_pos (by omega)]
        · rw [if_neg h, if_neg (by omega)]
      exact ⟨hin, (b ++ [y], r, at0), ⟨hok, h2.trans e2.symm, h3⟩, Nat.le_refl _, rfl, ⟨rfl, rfl, rfl, rfl, rfl, rfl, rfl, rfl, rfl, rfl, rfl, rfl, rfl, hix⟩, .inr ⟨rfl, rfl⟩, .inr ⟨rfl, rfl⟩⟩
/-! ### those that are told, one by one -/
def soOk (c : Cfg) (l : List Rtd) (a : List Ky) (last : Rtd) : Prop := (rI last.2.1 ∧ rI last.2.2) ∧ ∀ a' k, a = a' ++ [k] → k = (rtR last, last.1)
def so6 (c : Cfg) (g : Bool) (l : List Rtd) (more : Int) (fB : Bool) (K : List Ky) : WLoop :=
  { St := List Ky × List Ky × Rtd
    O := Unit
    T := fun s => [(1, .sl g (l.map rtD)), (2, .int .i64 more), (3, .ptr 0 0 0), (7, .sl fB ((K.map (·.2)).map iD)), (8, .ptr 1 0 0), (30, .sl fB ((K.map (·.2)).map iD)), (31, .int .i64 ((K.map (·.2)).map iD).length), (32, .int .i64 s.1.length)]
    S := fun s => [cRow c, some (.row .own 3 [rtD s.2.2])]
    ok := fun s => s.1 ++ s.2.1 = K ∧ K.length ≤ 500 ∧ soOk c l s.1 s.2.2
    μ := fun s => s.2.1.length
    m := fun s => ()
    src := [(0, true), (1, true)]
    outs := [{ α := Unit, is := fun _ _ => True, ex := .exit 0, src := [(0, true)], T := fun _ => [(1, .sl g (l.map rtD)), (2, .int .i64 more), (3, .ptr 0 0 0), (7, .sl fB ((K.map (·.2)).map iD))], S := fun _ => [cRow c] }] }
noncomputable def so6Cfg (c : Cfg) (g : Bool) (l : List Rtd) (more : Int) (fB : Bool) (B : List Int) (last : Rtd) (i : Nat) (id : Int) (n : Nat) : WCfg := { soCfg0 [(33, .t), (52, .f), (62, .f), (89, .f)] with loops := fun k => match k with | 10 => some ((so10 c g l more fB B last i id n).row [(0, true), (1, true)]) | _ => none }
theorem so6R (c : Cfg) (g : Bool) (l : List Rtd) (more : Int) (fB : Bool) (K : List Ky) (hl : l.length ≤ 64) (hnd : (l.map (·.1)).Nodup) (hK : ∀ k ∈ K, ∃ x ∈ l, enoughB x.2.1 x.2.2 c.requests = true ∧ k = (rtR x, x.1)) (hS : SrtK K) (hN : (K.map (·.2)).Nodup) (s : (so6 c g l more fB K).St) (hs : (so6 c g l more fB K).ok s) : Tri Try.prog 0 120 (lp Try.f5 6) (tb ((so6 c g l more fB K).T s)) ((so6 c g l more fB K).S s) ((so6 c g l more fB K).q 0 s) := by
  obtain ⟨a, r, last⟩ := s
  obtain ⟨h1, h2, h3, h4⟩ := hs
  simp only at h1 h3 h4
  have hL : (List.map rtD l).length = l.length := List.length_map ..
  have hB : (List.map iD (List.map (·.2) K)).length = K.length := by rw [List.length_map, List.length_map]
  cases r with
  | nil =>
    rw [List.append_nil] at h1
    subst h1
    refine round0 (C := { soCfg0 [(33, .f)] with unr := fun k => if k = 10 then 1 else 0 }) (ctrs_ok (soC) rfl rfl) (by kernel_rfl) (by kernel_rfl) (q := decide ((↑a.length : Int) < (↑(List.map iD (List.map (fun (x : Ky) => x.snd) a)).length : Int)) = false ∧ ∃ (a_1 : Unit), True ∧ (D.sl g (List.map rtD l) = D.sl g (List.map rtD l) ∧ D.int IntKind.i64 more = D.int IntKind.i64 more ∧ D.ptr (0 : Nat) (0 : Nat) (0 : Nat) = D.ptr (0 : Nat) (0 : Nat) (0 : Nat) ∧ D.sl fB (List.map iD (List.map (fun (x : Ky) => x.snd) a)) = D.sl fB (List.map iD (List.map (fun (x : Ky) => x.snd) a))) ∧ (some (Ob.row St.own (23 : Nat) [c.toD]) = none ∨ some (Ob.row St.own (23 : Nat) [c.toD]) = some (Ob.row St.own (23 : Nat) [c.toD]) ∧ true = true)) (by kernel_rfl) ?_
    exact ⟨decide_eq_false (by omega), (), trivial, ⟨rfl, rfl, rfl, rfl⟩, .inr ⟨rfl, rfl⟩⟩
  | cons k r =>
    obtain ⟨x, hx, hxe, hk⟩ := hK k (by rw [← h1]; simp)
    obtain ⟨n, hn, hxn⟩ := List.getElem_of_mem hx
    refine roundL (C := so6Cfg c g l more fB (K.map (·.2)) last a.length k.2 n) (ctrs_ok (soC) rfl rfl) (by kernel_rfl) (l := [lp Try.f5 10]) (by kernel_rfl) ?_ (q := decide ((↑a.length : Int) < (↑(List.map iD (List.map (fun (x : Ky) => x.snd) K)).length : Int)) = true ∧ ∃ (y : Int), (0 : Int) ≤ (↑a.length : Int) ∧ (List.map iD (List.map (fun (x : Ky) => x.snd) K))[(↑a.length : Int).toNat]? = some (D.int IntKind.i64 y) ∧ ∃ (b : List Rtd × List Rtd × Int), (b.fst ++ b.snd.fst = l ∧ (b.snd.snd = if n < b.fst.length then (↑n : Int) else (-1 : Int)) ∧ l.length ≤ (500 : Nat)) ∧ ((D.sl g (List.map rtD l) = D.sl g (List.map rtD l) ∧ D.int IntKind.i64 more = D.int IntKind.i64 more ∧ D.ptr (0 : Nat) (0 : Nat) (0 : Nat) = D.ptr (0 : Nat) (0 : Nat) (0 : Nat) ∧ D.sl fB (List.map iD (List.map (fun (x : Ky) => x.snd) K)) = D.sl fB (List.map iD (List.map (fun (x : Ky) => x.snd) K)) ∧ D.ptr (1 : Nat) (0 : Nat) (0 : Nat) = D.ptr (1 : Nat) (0 : Nat) (0 : Nat) ∧ D.int IntKind.i64 (↑a.length : Int) = D.int IntKind.i64 (↑a.length : Int) ∧ D.int IntKind.i64 k.snd = D.int IntKind.i64 y ∧ D.int IntKind.i64 b.snd.snd = D.int IntKind.i64 (-1 : Int) ∧ D.sl fB (List.map iD (List.map (fun (x : Ky) => x.snd) K)) = D.sl fB (List.map iD (List.map (fun (x : Ky) => x.snd) K)) ∧ D.int IntKind.i64 (↑(List.map iD (List.map (fun (x : Ky) => x.snd) K)).length : Int) = D.int IntKind.i64 (↑(List.map iD (List.map (fun (x : Ky) => x.snd) K)).length : Int) ∧ D.int IntKind.i64 (↑a.length : Int) = D.int IntKind.i64 (↑a.length : Int) ∧ D.sl g (List.map rtD l) = D.sl g (List.map rtD l) ∧ D.int IntKind.i64 (↑(List.map rtD l).length : Int) = D.int IntKind.i64 (↑(List.map rtD l).length : Int) ∧ D.int IntKind.i64 (↑b.fst.length : Int) = D.int IntKind.i64 (0 : Int)) ∧ (some (Ob.row St.own (23 : Nat) [c.toD]) = none ∨ some (Ob.row St.own (23 : Nat) [c.toD]) = some (Ob.row St.own (23 : Nat) [c.toD]) ∧ true = true) ∧ (some (Ob.row St.own (3 : Nat) [D.agg [D.int IntKind.i64 last.fst, D.int IntKind.i64 last.snd.fst, D.int IntKind.i64 last.snd.snd]]) = none ∨ some (Ob.row St.own (3 : Nat) [D.agg [D.int IntKind.i64 last.fst, D.int IntKind.i64 last.snd.fst, D.int IntKind.i64 last.snd.snd]]) = some (Ob.row St.own (3 : Nat) [D.agg [D.int IntKind.i64 last.fst, D.int IntKind.i64 last.snd.fst, D.int IntKind.i64 last.snd.snd]]) ∧ true = true)) ∧ ∀ (a_1 : Unit), True → false = false ∧ ∃ (y : Int × Int × Int), (0 : Int) ≤ (↑n : Int) ∧ (List.map rtD l)[(↑n : Int).toNat]? = some (D.agg [D.int IntKind.i64 y.fst, D.int IntKind.i64 y.snd.fst, D.int IntKind.i64 y.snd.snd]) ∧ True ∧ (!enoughB y.snd.fst y.snd.snd c.requests) = false ∧ (rI last.snd.fst ∧ rI last.snd.snd) ∧ ∃ (y : Int × Int × Int), (0 : Int) ≤ (↑n : Int) ∧ (List.map rtD l)[(↑n : Int).toNat]? = some (D.agg [D.int IntKind.i64 y.fst, D.int IntKind.i64 y.snd.fst, D.int IntKind.i64 y.snd.snd]) ∧ (rI y.snd.fst ∧ rI y.snd.snd) ∧ (decide ((0 : Int) < (↑a.length : Int)) = true → (decide (rateB y.snd.fst y.snd.snd < rateB last.snd.fst last.snd.snd) = true → False) ∧ (decide (rateB y.snd.fst y.snd.snd < rateB last.snd.fst last.snd.snd) = false → (decide (rateB y.snd.fst y.snd.snd = rateB last.snd.fst last.snd.snd) = true → decide (k.snd ≤ last.fst) = false ∧ ∃ (y : Int × Int × Int), (0 : Int) ≤ (↑n : Int) ∧ (List.map rtD l)[(↑n : Int).toNat]? = some (D.agg [D.int IntKind.i64 y.fst, D.int IntKind.i64 y.snd.fst, D.int IntKind.i64 y.snd.snd]) ∧ inK IntKind.i64 ((↑a.length : Int) + (1 : Int)) ∧ ∃ (s' : List Ky × List Ky × Rtd), (s'.fst ++ s'.snd.fst = K ∧ K.length ≤ (500 : Nat) ∧ (rI s'.snd.snd.snd.fst ∧ rI s'.snd.snd.snd.snd) ∧ ∀ (a' : List (Int × Int)) (k : Int × Int), s'.fst = a' ++ [k] → k = (rtR s'.snd.snd, s'.snd.snd.fst)) ∧ s'.snd.fst.length.succ ≤ (k :: r).length ∧ () = () ∧ (D.sl g (List.map rtD l) = D.sl g (List.map rtD l) ∧ D.int IntKind.i64 more = D.int IntKind.i64 more ∧ D.ptr (0 : Nat) (0 : Nat) (0 : Nat) = D.ptr (0 : Nat) (0 : Nat) (0 : Nat) ∧ D.sl fB (List.map iD (List.map (fun (x : Ky) => x.snd) K)) = D.sl fB (List.map iD (List.map (fun (x : Ky) => x.snd) K)) ∧ D.ptr (1 : Nat) (0 : Nat) (0 : Nat) = D.ptr (1 : Nat) (0 : Nat) (0 : Nat) ∧ D.sl fB (List.map iD (List.map (fun (x : Ky) => x.snd) K)) = D.sl fB (List.map iD (List.map (fun (x : Ky) => x.snd) K)) ∧ D.int IntKind.i64 (↑(List.map iD (List.map (fun (x : Ky) => x.snd) K)).length : Int) = D.int IntKind.i64 (↑(List.map iD (List.map (fun (x : Ky) => x.snd) K)).length : Int) ∧ D.int IntKind.i64 (↑s'.fst.length : Int) = D.int IntKind.i64 ((↑a.length : Int) + (1 : Int))) ∧ (some (Ob.row St.own (23 : Nat) [c.toD]) = none ∨ some (Ob.row St.own (23 : Nat) [c.toD]) = some (Ob.row St.own (23 : Nat) [c.toD]) ∧ true = true) ∧ (some (Ob.row St.own (3 : Nat) [D.agg [D.int IntKind.i64 s'.snd.snd.fst, D.int IntKind.i64 s'.snd.snd.snd.fst, D.int IntKind.i64 s'.snd.snd.snd.snd]]) = none ∨ some (Ob.row St.own (3 : Nat) [D.agg [D.int IntKind.i64 s'.snd.snd.fst, D.int IntKind.i64 s'.snd.snd.snd.fst, D.int IntKind.i64 s'.snd.snd.snd.snd]]) = some (Ob.row St.own (3 : Nat) [D.agg [D.int IntKind.i64 y.fst, D.int IntKind.i64 y.snd.fst, D.int IntKind.i64 y.snd.snd]]) ∧ true = true)) ∧ (decide (rateB y.snd.fst y.snd.snd = rateB last.snd.fst last.snd.snd) = false → ∃ (y : Int × Int × Int), (0 : Int) ≤ (↑n : Int) ∧ (List.map rtD l)[(↑n : Int).toNat]? = some (D.agg [D.int IntKind.i64 y.fst, D.int IntKind.i64 y.snd.fst, D.int IntKind.i64 y.snd.snd]) ∧ inK IntKind.i64 ((↑a.length : Int) + (1 : Int)) ∧ ∃ (s' : List Ky × List Ky × Rtd), (s'.fst ++ s'.snd.fst = K ∧ K.length ≤ (500 : Nat) ∧ (rI s'.snd.snd.snd.fst ∧ rI s'.snd.snd.snd.snd) ∧ ∀ (a' : List (Int × Int)) (k : Int × Int), s'.fst = a' ++ [k] → k = (rtR s'.snd.snd, s'.snd.snd.fst)) ∧ s'.snd.fst.length.succ ≤ (k :: r).length ∧ () = () ∧ (D.sl g (List.map rtD l) = D.sl g (List.map rtD l) ∧ D.int IntKind.i64 more = D.int IntKind.i64 more ∧ D.ptr (0 : Nat) (0 : Nat) (0 : Nat) = D.ptr (0 : Nat) (0 : Nat) (0 : Nat) ∧ D.sl fB (List.map iD (List.map (fun (x : Ky) => x.snd) K)) = D.sl fB (List.map iD (List.map (fun (x : Ky) => x.snd) K)) ∧ D.ptr (1 : Nat) (0 : Nat) (0 : Nat) = D.ptr (1 : Nat) (0 : Nat) (0 : Nat) ∧ D.sl fB (List.map iD (List.map (fun (x : Ky) => x.snd) K)) = D.sl fB (List.map iD (List.map (fun (x : Ky) => x.snd) K)) ∧ D.int IntKind.i64 (↑(List.map iD (List.map (fun (x : Ky) => x.snd) K)).length : Int) = D.int IntKind.i64 (↑(List.map iD (List.map (fun (x : Ky) => x.snd) K)).length : Int) ∧ D.int IntKind.i64 (↑s'.fst.length : Int) = D.int IntKind.i64 ((↑a.length : Int) + (1 : Int))) ∧ (some (Ob.row St.own (23 : Nat) [c.toD]) = none ∨ some (Ob.row St.own (23 : Nat) [c.toD]) = some (Ob.row St.own (23 : Nat) [c.toD]) ∧ true = true) ∧ (some (Ob.row St.own (3 : Nat) [D.agg [D.int IntKind.i64 s'.snd.snd.fst, D.int IntKind.i64 s'.snd.snd.snd.fst, D.int IntKind.i64 s'.snd.snd.snd.snd]]) = none ∨ some (Ob.row St.own (3 : Nat) [D.agg [D.int IntKind.i64 s'.snd.snd.fst, D.int IntKind.i64 s'.snd.snd.snd.fst, D.int IntKind.i64 s'.snd.snd.snd.snd]]) = some (Ob.row St.own (3 : Nat) [D.agg [D.int IntKind.i64 y.fst, D.int IntKind.i64 y.snd.fst, D.int IntKind.i64 y.snd.snd]]) ∧ true = true)))) ∧ (decide ((0 : Int) < (↑a.length : Int)) = false → ∃ (y : Int × Int × Int), (0 : Int) ≤ (↑n : Int) ∧ (List.map rtD l)[(↑n : Int).toNat]? = some (D.agg [D.int IntKind.i64 y.fst, D.int IntKind.i64 y.snd.fst, D.int IntKind.i64 y.snd.snd]) ∧ inK IntKind.i64 ((↑a.length : Int) + (1 : Int)) ∧ ∃ (s' : List Ky × List Ky × Rtd), (s'.fst ++ s'.snd.fst = K ∧ K.length ≤ (500 : Nat) ∧ (rI s'.snd.snd.snd.fst ∧ rI s'.snd.snd.snd.snd) ∧ ∀ (a' : List (Int × Int)) (k : Int × Int), s'.fst = a' ++ [k] → k = (rtR s'.snd.snd, s'.snd.snd.fst)) ∧ s'.snd.fst.length.succ ≤ (k :: r).length ∧ () = () ∧ (D.sl g (List.map rtD l) = D.sl g (List.map rtD l) ∧ D.int IntKind.i64 more = D.int IntKind.i64 more ∧ D.ptr (0 : Nat) (0 : Nat) (0 : Nat) = D.ptr (0 : Nat) (0 : Nat) (0 : Nat) ∧ D.sl fB (List.map iD (List.map (fun (x : Ky) => x.snd) K)) = D.sl fB (List.map iD (List.map (fun (x : Ky) => x.snd) K)) ∧ D.ptr (1 : Nat) (0 : Nat) (0 : Nat) = D.ptr (1 : Nat) (0 : Nat) (0 : Nat) ∧ D.sl fB (List.map iD (List.map (fun (x : Ky) => x.snd) K)) = D.sl fB (List.map iD (List.map (fun (x : Ky) => x.snd) K)) ∧ D.int IntKind.i64 (↑(List.map iD (List.map (fun (x : Ky) => x.snd) K)).length : Int) = D.int IntKind.i64 (↑(List.map iD (List.map (fun (x : Ky) => x.snd) K)).length : Int) ∧ D.int IntKind.i64 (↑s'.fst.length : Int) = D.int IntKind.i64 ((↑a.length : Int) + (1 : Int))) ∧ (some (Ob.row St.own (23 : Nat) [c.toD]) = none ∨ some (Ob.row St.own (23 : Nat) [c.toD]) = some (Ob.row St.own (23 : Nat) [c.toD]) ∧ true = true) ∧ (some (Ob.row St.own (3 : Nat) [D.agg [D.int IntKind.i64 s'.snd.snd.fst, D.int IntKind.i64 s'.snd.snd.snd.fst, D.int IntKind.i64 s'.snd.snd.snd.snd]]) = none ∨ some (Ob.row St.own (3 : Nat) [D.agg [D.int IntKind.i64 s'.snd.snd.fst, D.int IntKind.i64 s'.snd.snd.snd.fst, D.int IntKind.i64 s'.snd.snd.snd.snd]]) = some (Ob.row St.own (3 : Nat) [D.agg [D.int IntKind.i64 y.fst, D.int IntKind.i64 y.snd.fst, D.int IntKind.i64 y.snd.snd]]) ∧ true = true))) (by kernel_rfl) ?_
    · intro z hz
      rw [List.mem_singleton.1 hz]
      refine (so10 c g l more fB (K.map (·.2)) last a.length k.2 n).fits 10 [(0, true), (1, true)] (by kernel_rfl) rfl (so10R c g l more fB (K.map (·.2)) last a.length k.2 n hn ?_)
      intro j y hy
      obtain ⟨hj, hy⟩ := List.getElem?_eq_some_iff.1 hy
      have hkx : k.2 = x.1 := by rw [hk]
      rw [hkx, ← hxn, ← hy]
      constructor
      · intro e
        exact (List.getElem_inj (h₀ := by rw [List.length_map]; exact hj) (h₁ := by rw [List.length_map]; exact hn) hnd).1 (by rw [List.getElem_map, List.getElem_map]; exact e)
      · intro e; subst e; rfl
    have hal : a.length + (r.length + 1) = K.length := by rw [← h1]; simp
    have hm : mayB x.2.1 x.2.2 = true := (of_decide_eq_true hxe).1
    have hrx := b_rt hm
    have hgK : (List.map iD (List.map (·.2) K))[((a.length : Int)).toNat]? = some (iD k.2) := by
      rw [← h1, List.map_append, List.map_cons]
      have := get_midI iD (a.map (·.2)) k.2 (r.map (·.2))
      rw [List.length_map] at this
      exact this
    have hgx : (List.map rtD l)[((n : Int)).toNat]? = some (rtD x) := by
      rw [Int.toNat_natCast, List.getElem?_map, List.getElem?_eq_getElem hn, hxn]; rfl
    have hix : D.int .i64 ((a ++ [k]).length : Int) = D.int .i64 ((a.length : Int) + 1) := by simp
    have hin : inK .i64 ((a.length : Int) + 1) := by simp only [inK]; omega
    have hok : (a ++ [k]) ++ r = K := by rw [← h1]; simp
    have hlast : ∀ (a' : List Ky) (k' : Ky), a ++ [k] = a' ++ [k'] → k' = (rtR x, x.1) := fun a' k' e => by
      have := List.append_inj_right' e rfl
      injection this with e1
      rw [← e1, hk]
    have hprev : 0 < (a.length : Int) → lessK (rtR last, last.1) k = true := fun h => by
      rcases List.eq_nil_or_concat a with ha | ⟨a', k0, ha⟩
      · rw [ha] at h; exact absurd h (by decide)
      · rw [List.concat_eq_append] at ha
        have hk0 := h4 a' k0 ha
        rw [← hk0]
        have hle : leK k0 k := by
          rw [← h1] at hS
          exact (List.pairwise_append.1 hS).2.2 k0 (by rw [ha]; simp) k (List.mem_cons_self ..)
        cases hlt : lessK k0 k with
        | true => rfl
        | false =>
          have he : k0 = k := leK_anti hle hlt
          rw [← h1, ha, he] at hN
          simp [List.nodup_append] at hN
    have hprev : 0 < (a.length : Int) → rtR last < k.1 ∨ (rtR last = k.1 ∧ last.1 < k.2) := fun h => lessK_iff.1 (hprev h)
    have hk1 : k.1 = rtR x := by rw [hk]
    have hk2 : k.2 = x.1 := by rw [hk]
    have fin : ∃ y : Rtd, 0 ≤ (n : Int) ∧ (List.map rtD l)[((n : Int)).toNat]? = some (rtD y) ∧ y = x := ⟨x, by omega, hgx, rfl⟩
    refine ⟨decide_eq_true (by omega), k.2, by omega, hgK, ([], l, -1), ⟨rfl, rfl, by omega⟩, ⟨⟨rfl, rfl, rfl, rfl, rfl, rfl, rfl, rfl, rfl, rfl, rfl, rfl, rfl, rfl⟩, .inr ⟨rfl, rfl⟩, .inr ⟨rfl, rfl⟩⟩, fun _ _ => ⟨rfl, x, by omega, hgx, trivial, by rw [hxe]; rfl, h3, x, by omega, hgx, hrx, fun hp => ⟨fun hl => ?_, fun hl => ⟨fun he => ⟨?_, ?_⟩, fun he => ?_⟩⟩, fun hp => ?_⟩⟩
    · have := hprev (of_decide_eq_true hp)
      have hl := of_decide_eq_true hl
      have e1 : rateB x.2.1 x.2.2 = rtR x := rfl
      have e2 : rateB last.2.1 last.2.2 = rtR last := rfl
      omega
    · have := hprev (of_decide_eq_true hp)
      have he := of_decide_eq_true he
      have e1 : rateB x.2.1 x.2.2 = rtR x := rfl
      have e2 : rateB last.2.1 last.2.2 = rtR last := rfl
      exact decide_eq_false (by omega)
    all_goals exact ⟨x, by omega, hgx, hin, (a ++ [k], r, x), ⟨hok, h2, hrx, hlast⟩, Nat.le_refl _, rfl, ⟨rfl, rfl, rfl, rfl, rfl, rfl, rfl, hix⟩, .inr ⟨rfl, rfl⟩, .inr ⟨rfl, rfl⟩⟩
theorem so6Nil (c : Cfg) (g : Bool) (l : List Rtd) (more : Int) (last : Rtd) : Tri Try.prog 0 120 (lp Try.f5 6) (tb ((so6 c g l more true []).T ([], [], last))) ((so6 c g l more true []).S ([], [], last)) ((so6 c g l more true []).q 0 ([], [], last)) := by
  refine round0 (C := { soCfg0 [(33, .f)] with unr := fun k => if k = 10 then 1 else 0 }) (ctrs_ok (soC) rfl rfl) (by kernel_rfl) (by kernel_rfl) (q := false = false ∧ ∃ (a : Unit), True ∧ (D.sl g (List.map rtD l) = D.sl g (List.map rtD l) ∧ D.int IntKind.i64 more = D.int IntKind.i64 more ∧ D.ptr (0 : Nat) (0 : Nat) (0 : Nat) = D.ptr (0 : Nat) (0 : Nat) (0 : Nat) ∧ D.sl true [] = D.sl true []) ∧ (some (Ob.row St.own (23 : Nat) [c.toD]) = none ∨ some (Ob.row St.own (23 : Nat) [c.toD]) = some (Ob.row St.own (23 : Nat) [c.toD]) ∧ true = true)) (by kernel_rfl) ?_
  exact ⟨rfl, (), trivial, ⟨rfl, rfl, rfl, rfl⟩, .inr ⟨rfl, rfl⟩⟩
def facI (c : Cfg) (more : Int) : Int := min 10000 (c.factor + wr .u64 more % 1000)
noncomputable def soNCfg (h1 h2 : Hn) (c : Cfg) (g : Bool) (l : List Rtd) (more : Int) (K : List Ky) : WCfg := { soCfg0 [(24, h1), (20, h2), (99, .w), (101, .d), (108, h2)] with loops := fun k => match k with | 6 => some ((so6 c g l more (K.map (·.2)).isEmpty K).row [(0, true), (1, true)]) | _ => none }
theorem soN1 (c : Cfg) (g : Bool) (l : List Rtd) (more : Int) (K : List Ky) (hz : c.zone.size ≤ 9223372036854775807) (h : ¬ (mayCfg c = true ∧ l.length ≤ 64)) : (c.toD = c.toD ∧ c.zone.size ≤ (9223372036854775807 : Nat)) ∧ ((!mayCfg c) = true → True ∧ D.bool true = D.bool true) ∧ ((!mayCfg c) = false → decide ((64 : Int) < (↑(List.map rtD l).length : Int)) = true ∧ True ∧ D.bool true = D.bool true) := by
  have hL : (List.map rtD l).length = l.length := List.length_map ..
  refine ⟨⟨rfl, hz⟩, fun _ => ⟨trivial, rfl⟩, fun h1 => ⟨decide_eq_true ?_, trivial, rfl⟩⟩
  have h1 : mayCfg c = true := by simpa using h1
  have : ¬ l.length ≤ 64 := fun h2 => h ⟨h1, h2⟩
  omega
theorem soN2 (c : Cfg) (g : Bool) (l : List Rtd) (more : Int) (K : List Ky) (hz : c.zone.size ≤ 9223372036854775807) (hm : mayCfg c = true) (hl : l.length ≤ 64) (hK : badV c l = K.map (·.2)) : (c.toD = c.toD ∧ c.zone.size ≤ (9223372036854775807 : Nat)) ∧ ((!mayCfg c) = true → True ∧ D.bool true = D.bool true) ∧ ((!mayCfg c) = false → decide ((64 : Int) < (↑(List.map rtD l).length : Int)) = false ∧ ((c.toD = c.toD ∧ c.zone.size ≤ (9223372036854775807 : Nat)) ∧ ∃ (l_1 : List Rtd), List.map rtD l = List.map rtD l_1 ∧ l_1.length ≤ (500 : Nat)) ∧ ∃ (b : List Ky × List Ky × Rtd), (b.fst ++ b.snd.fst = K ∧ K.length ≤ (500 : Nat) ∧ (rI b.snd.snd.snd.fst ∧ rI b.snd.snd.snd.snd) ∧ ∀ (a' : List (Int × Int)) (k : Int × Int), b.fst = a' ++ [k] → k = (rtR b.snd.snd, b.snd.snd.fst)) ∧ ((D.sl g (List.map rtD l) = D.sl g (List.map rtD l) ∧ D.int IntKind.i64 more = D.int IntKind.i64 more ∧ D.ptr (0 : Nat) (0 : Nat) (0 : Nat) = D.ptr (0 : Nat) (0 : Nat) (0 : Nat) ∧ D.sl (List.map (fun (x : Ky) => x.snd) K).isEmpty (List.map iD (List.map (fun (x : Ky) => x.snd) K)) = D.sl (badV c (List.map dRt (List.map rtD l))).isEmpty (List.map iD (badV c (List.map dRt (List.map rtD l)))) ∧ D.ptr (1 : Nat) (0 : Nat) (0 : Nat) = D.ptr (1 : Nat) (0 : Nat) (0 : Nat) ∧ D.sl (List.map (fun (x : Ky) => x.snd) K).isEmpty (List.map iD (List.map (fun (x : Ky) => x.snd) K)) = D.sl (badV c (List.map dRt (List.map rtD l))).isEmpty (List.map iD (badV c (List.map dRt (List.map rtD l)))) ∧ D.int IntKind.i64 (↑(List.map iD (List.map (fun (x : Ky) => x.snd) K)).length : Int) = D.int IntKind.i64 (↑(List.map iD (badV c (List.map dRt (List.map rtD l)))).length : Int) ∧ D.int IntKind.i64 (↑b.fst.length : Int) = D.int IntKind.i64 (0 : Int)) ∧ (some (Ob.row St.own (23 : Nat) [c.toD]) = none ∨ some (Ob.row St.own (23 : Nat) [c.toD]) = some (Ob.row St.own (23 : Nat) [c.toD]) ∧ true = true) ∧ (some (Ob.row St.own (3 : Nat) [D.agg [D.int IntKind.i64 b.snd.snd.fst, D.int IntKind.i64 b.snd.snd.snd.fst, D.int IntKind.i64 b.snd.snd.snd.snd]]) = none ∨ some (Ob.row St.own (3 : Nat) [D.agg [D.int IntKind.i64 b.snd.snd.fst, D.int IntKind.i64 b.snd.snd.snd.fst, D.int IntKind.i64 b.snd.snd.snd.snd]]) = some (Ob.row St.own (3 : Nat) [D.agg [D.int IntKind.i64 (-1 : Int), D.int IntKind.i64 (0 : Int), D.int IntKind.i64 (0 : Int)]]) ∧ true = true)) ∧ ∀ (a : Unit), True → (0 : Int) ≤ wr IntKind.u64 more ∧ (0 : Int) < (1000 : Int) ∧ inK IntKind.i64 (wr IntKind.u64 more % (1000 : Int)) ∧ inK IntKind.i64 (c.factor + wr IntKind.u64 more % (1000 : Int)) ∧ (decide (c.factor = (0 : Int)) = true → True ∧ D.bool true = D.bool true) ∧ (decide (c.factor = (0 : Int)) = false → ((D.agg [D.int IntKind.i64 c.interval, D.int IntKind.i64 c.timeout, D.int IntKind.i64 c.jitter, D.int IntKind.i64 c.rise, D.int IntKind.i64 c.fall, D.int IntKind.i64 c.panic, D.int IntKind.i64 c.over, D.int IntKind.i64 c.errors, D.int IntKind.i64 c.sweep, D.int IntKind.i64 c.hosts, D.int IntKind.i64 c.requests, D.int IntKind.i64 (min (10000 : Int) (c.factor + wr IntKind.u64 more % (1000 : Int))), D.int IntKind.i64 c.fails, D.int IntKind.i64 c.base, D.int IntKind.i64 c.eject, D.bool c.one, D.int IntKind.i64 c.slow, D.int IntKind.i64 c.drain, D.int IntKind.i64 c.hostLimit, D.int IntKind.i64 c.poolLimit, D.int IntKind.i64 c.policy, D.str c.zone, D.bool c.fallback] = D.agg [D.int IntKind.i64 c.interval, D.int IntKind.i64 c.timeout, D.int IntKind.i64 c.jitter, D.int IntKind.i64 c.rise, D.int IntKind.i64 c.fall, D.int IntKind.i64 c.panic, D.int IntKind.i64 c.over, D.int IntKind.i64 c.errors, D.int IntKind.i64 c.sweep, D.int IntKind.i64 c.hosts, D.int IntKind.i64 c.requests, D.int IntKind.i64 (min (10000 : Int) (c.factor + wr IntKind.u64 more % (1000 : Int))), D.int IntKind.i64 c.fails, D.int IntKind.i64 c.base, D.int IntKind.i64 c.eject, D.bool c.one, D.int IntKind.i64 c.slow, D.int IntKind.i64 c.drain, D.int IntKind.i64 c.hostLimit, D.int IntKind.i64 c.poolLimit, D.int IntKind.i64 c.policy, D.str c.zone, D.bool c.fallback] ∧ c.zone.size ≤ (9223372036854775807 : Nat)) ∧ ∃ (l_1 : List Rtd), List.map rtD l = List.map rtD l_1 ∧ l_1.length ≤ (500 : Nat)) ∧ (decide ((↑(List.map iD (badV (Cfg.mk c.interval c.timeout c.jitter c.rise c.fall c.panic c.over c.errors c.sweep c.hosts c.requests (min (10000 : Int) (c.factor + wr IntKind.u64 more % (1000 : Int))) c.fails c.base c.eject c.one c.slow c.drain c.hostLimit c.poolLimit c.policy c.zone c.fallback) (List.map dRt (List.map rtD l)))).length : Int) ≤ (↑(List.map iD (List.map (fun (x : Ky) => x.snd) K)).length : Int)) = true → True ∧ D.bool true = D.bool true) ∧ (decide ((↑(List.map iD (badV (Cfg.mk c.interval c.timeout c.jitter c.rise c.fall c.panic c.over c.errors c.sweep c.hosts c.requests (min (10000 : Int) (c.factor + wr IntKind.u64 more % (1000 : Int))) c.fails c.base c.eject c.one c.slow c.drain c.hostLimit c.poolLimit c.policy c.zone c.fallback) (List.map dRt (List.map rtD l)))).length : Int) ≤ (↑(List.map iD (List.map (fun (x : Ky) => x.snd) K)).length : Int)) = false → D.bool false = D.bool true))) := by
  have hL : (List.map rtD l).length = l.length := List.length_map ..
  have hBl := badV_len c l
  have hKl : K.length ≤ 64 := by rw [hK, List.length_map] at hBl; omega
  have hw : 0 ≤ wr .u64 more := by simp only [wr]; omega
  have hn := (of_decide_eq_true hm).1
  unfold Cfg.nums at hn
  rw [map_dRt, hK]
  refine ⟨⟨rfl, hz⟩, fun _ => ⟨trivial, rfl⟩, fun _ => ⟨decide_eq_false (by omega), ⟨⟨rfl, hz⟩, l, rfl, by omega⟩, ([], K, (-1, 0, 0)), ⟨rfl, by omega, ⟨(show rI (0 : Int) by unfold rI; omega), (show rI (0 : Int) by unfold rI; omega)⟩, fun a' k e => ?_⟩, ⟨⟨rfl, rfl, rfl, rfl, rfl, rfl, rfl, rfl⟩, .inr ⟨rfl, rfl⟩, .inr ⟨rfl, rfl⟩⟩, fun _ _ => ⟨by omega, by omega, ink (by omega), ink (by omega), fun _ => ⟨trivial, rfl⟩, fun hf => ⟨⟨⟨rfl, hz⟩, l, rfl, by omega⟩, fun _ => ⟨trivial, rfl⟩, fun hc => ?_⟩⟩⟩⟩
  · have := congrArg List.length e
    simp at this
  · have hf := of_decide_eq_false hf
    have hc := of_decide_eq_false hc
    exfalso
    apply hc
    have := badV_fac (d := { c with factor := min 10000 (c.factor + wr .u64 more % 1000) }) hm (by omega) (by show c.factor ≤ min 10000 (c.factor + wr .u64 more % 1000); omega) rfl rfl rfl l
    rw [hK] at this
    rw [List.length_map, List.length_map]
    exact Int.ofNat_le.2 this
theorem spreadOrder_law {x0 : List D} (o0 : OkL reachBytes [.int .i64, .int .i64, .int .i64, .int .i64, .int .i64, .int .i64, .int .i64, .int .i64, .int .i64, .int .i64, .int .i64, .int .i64, .int .i64, .int .i64, .int .i64, .bool, .int .i64, .int .i64, .int .i64, .int .i64, .int .i64, .str, .bool] x0) {x1 : List D} (o1 : OkL reachBytes [.sl true [.int .i64, .int .i64, .int .i64]] x1) {x2 : List D} (o2 : OkL reachBytes [.int .i64] x2) : DataFun Try.prog 5 [vOf true x0, vOf false x1, vOf false x2] (.bool true) := by
  obtain ⟨c, rfl, _, hz⟩ := cfgL_of' o0
  obtain ⟨g, l, rfl, _⟩ := okl1_rated o1
  obtain ⟨more, rfl, _⟩ := okl1_int o2
  have fits : ∀ (h1 h2 : Hn) (K : List Ky), l.length ≤ 64 → (l.map (·.1)).Nodup → (∀ k ∈ K, ∃ x ∈ l, enoughB x.2.1 x.2.2 c.requests = true ∧ k = (rtR x, x.1)) → SrtK K → (K.map (·.2)).Nodup → ∀ x ∈ [lp Try.f5 6], LoopFits Try.prog (soNCfg h1 h2 c g l more K) 120 x := by
    intro h1 h2 K a1 a2 a3 a4 a5 x hx
    rw [List.mem_singleton.1 hx]
    exact (so6 c g l more (K.map (·.2)).isEmpty K).fits 6 [(0, true), (1, true)] (by kernel_rfl) rfl (so6R c g l more _ K a1 a2 a3 a4 a5)
  have nofits : ∀ (h1 h2 : Hn), ∀ x ∈ [lp Try.f5 6], LoopFits Try.prog (soNCfg h1 h2 c g l more []) 120 x := by
    intro h1 h2 x hx
    rw [List.mem_singleton.1 hx]
    refine (so6 c g l more true []).fits 6 [(0, true), (1, true)] (by kernel_rfl) rfl (fun s hs => ?_)
    obtain ⟨a, r, last⟩ := s
    obtain ⟨e, e2, e3⟩ := hs
    have ha : a = [] := by cases a with
      | nil => rfl
      | cons _ _ => cases e
    have hr : r = [] := by rw [ha] at e; exact e
    subst ha hr
    exact so6Nil c g l more last
  by_cases h : mayCfg c = true ∧ l.length ≤ 64
  · by_cases hl : mayM l = true
    · have hml := (mayM_iff l).1 hl
      refine dataFunL (C := soNCfg .f .d c g l more (sortK (badKs c (enB c l) (farL c (enB c l))))) (ctrs_ok soC rfl rfl) rfl Try.func5 (by kernel_rfl) (l := [lp Try.f5 6]) (by kernel_rfl) (fits _ _ _ h.2 hml.2.2 (fun k hk => badKs_mem ((sortK_perm _).mem_iff.1 hk)) (sortK_srt _) ?_) (by kernel_rfl) (by kernel_rfl) (by kernel_rfl) (soN2 c g l more _ hz h.1 h.2 (if_pos ⟨h.1, hl⟩))
      exact ((sortK_perm _).map _).nodup_iff.2 (badKs_nodup hml.2.2)
    · exact dataFunL (C := soNCfg .f .d c g l more []) (ctrs_ok soC rfl rfl) rfl Try.func5 (by kernel_rfl) (l := [lp Try.f5 6]) (by kernel_rfl) (nofits _ _) (by kernel_rfl) (by kernel_rfl) (by kernel_rfl) (soN2 c g l more [] hz h.1 h.2 (if_neg (fun e => hl e.2)))
  · exact dataFunL (C := soNCfg .t .d c g l more []) (ctrs_ok soC rfl rfl) rfl Try.func5 (by kernel_rfl) (l := [lp Try.f5 6]) (by kernel_rfl) (nofits _ _) (by kernel_rfl) (by kernel_rfl) (by kernel_rfl) (soN1 c g l more [] hz h)
end Go.Proofs.Ytfclelafcdcilaa.Dv
