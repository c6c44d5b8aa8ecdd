/- A state's copy by the pages (printed by wip/tools/gath.py). -/
import Derived.Test.YtgibpomhiilehaaN1
set_option linter.unusedVariables false
set_option linter.unusedSimpArgs false
namespace Go.Proofs.Ytgibpomhiilehaa.Dv
open Go Go.Proofs
theorem hc'Nil (f : Bool) (a c e : Int) (b d : ByteArray) : true = true ∧ (nilT D = [] → D.agg [D.int IntKind.i64 a, D.str b, D.int IntKind.i64 c, D.str d, D.int IntKind.i64 e, D.sl true []] = D.agg [D.int IntKind.i64 a, D.str b, D.int IntKind.i64 c, D.str d, D.int IntKind.i64 e, D.sl true []]) ∧ ((nilT D = [] → False) → true = true ∧ true = true ∧ (0 : Nat) ≤ (140737488355328 : Nat) ∧ (0 : Nat) ≤ (0 : Nat) ∧ true = true ∧ D.agg [D.int IntKind.i64 a, D.str b, D.int IntKind.i64 c, D.str d, D.int IntKind.i64 e, D.sl false []] = D.agg [D.int IntKind.i64 a, D.str b, D.int IntKind.i64 c, D.str d, D.int IntKind.i64 e, D.sl true []]) := by
  repeat' (first | (intro _) | (apply And.intro))
  all_goals first
    | rfl
    | trivial
    | (intros; contradiction)
    | omega
    | simp_all
theorem hc'Cons (f : Bool) (a c e : Int) (b d : ByteArray) (x : D) (xs : List D) (h1 : (x :: xs).all D.pure = true) (h2 : (x :: xs).all (okEl 2) = true) (h3 : (x :: xs).length * 32 ≤ 140737488355328) : (x :: xs).all (okEl (ti Try.prog (139 : Nat)).sz) = true ∧ (x :: xs = [] → D.agg [D.int IntKind.i64 a, D.str b, D.int IntKind.i64 c, D.str d, D.int IntKind.i64 e, D.sl true []] = D.agg [D.int IntKind.i64 a, D.str b, D.int IntKind.i64 c, D.str d, D.int IntKind.i64 e, D.sl false (x :: xs)]) ∧ ((x :: xs = [] → False) → true = true ∧ true = true ∧ ((0 : Nat) + (x :: xs).length) * (32 : Nat) ≤ (140737488355328 : Nat) ∧ (0 : Nat) + ((0 : Nat) + (x :: xs).length) ≤ (x :: xs).length ∧ (List.take ((0 : Nat) + (x :: xs).length) (x :: xs)).all D.pure = true ∧ D.agg [D.int IntKind.i64 a, D.str b, D.int IntKind.i64 c, D.str d, D.int IntKind.i64 e, D.sl false (List.take ((0 : Nat) + (x :: xs).length) (x :: xs))] = D.agg [D.int IntKind.i64 a, D.str b, D.int IntKind.i64 c, D.str d, D.int IntKind.i64 e, D.sl false (x :: xs)]) := by
  have ht : List.take (0 + (x :: xs).length) (x :: xs) = x :: xs := by rw [Nat.zero_add, List.take_length]
  rw [ht, show (ti Try.prog 139).sz = 2 by kernel_rfl]
  exact ⟨h2, (fun h => by cases h), fun _ => ⟨rfl, by trivial, by omega, by omega, h1, rfl⟩⟩
def copyHostC : Ctr := ⟨82, hcS, by
  intro vs o ho hp
  unfold hcS at ho
  split at ho
  · rename_i a b c d e f xs
    injection ho with ho; subst ho
    obtain ⟨h1, h2, h3⟩ := hp
    cases xs with
    | nil => exact dataFun0 (C := nCfg 0 [] [] []) (ctrs_ok [] rfl rfl) rfl Try.func82 (by kernel_rfl) (by kernel_rfl) (by kernel_rfl) (by kernel_rfl) (by kernel_rfl) (hc'Nil f a c e b d)
    | cons x xs =>
      have hr : frz 0 [] (.agg [.int .i64 a, .str b, .int .i64 c, .str d, .int .i64 e, .sl false (x :: xs)]) = some (.agg [.int .i64 a, .str b, .int .i64 c, .str d, .int .i64 e, .sl false (x :: xs)]) := rfl
      exact dataFun0 (C := nCfg 0 [] [] []) (ctrs_ok [] rfl rfl) rfl Try.func82 (by kernel_rfl) (by kernel_rfl) (by kernel_rfl) hr (by kernel_rfl) (hc'Cons f a c e b d x xs h1 h2 h3)
  · cases ho⟩
theorem cpOneN (t : Stat) (h : t.small) : ((List.map pairD t.mt).all D.pure = true ∧ (List.map pairD t.mt).all (okEl (2 : Nat)) = true ∧ (List.map pairD t.mt).length * (32 : Nat) ≤ (140737488355328 : Nat)) ∧ D.agg [D.int IntKind.i64 t.id, D.str t.addr, D.int IntKind.i64 t.prio, D.str t.zone, D.int IntKind.i64 t.w, D.sl (List.map pairD t.mt).isEmpty (List.map pairD t.mt), D.bool t.up, D.int IntKind.i64 t.run, D.int IntKind.i64 t.forced, D.int IntKind.i64 t.wait, D.int IntKind.i64 t.errors, D.int IntKind.i64 t.bok, D.int IntKind.i64 t.ball, D.bool t.out, D.int IntKind.i64 t.frm, D.int IntKind.i64 t.till, D.int IntKind.i64 t.times, D.bool t.drains, D.int IntKind.i64 t.gone, D.int IntKind.i64 t.since, D.int IntKind.i64 t.active] = D.agg [D.int IntKind.i64 t.id, D.str t.addr, D.int IntKind.i64 t.prio, D.str t.zone, D.int IntKind.i64 t.w, D.sl t.mt.isEmpty (List.map pairD t.mt), D.bool t.up, D.int IntKind.i64 t.run, D.int IntKind.i64 t.forced, D.int IntKind.i64 t.wait, D.int IntKind.i64 t.errors, D.int IntKind.i64 t.bok, D.int IntKind.i64 t.ball, D.bool t.out, D.int IntKind.i64 t.frm, D.int IntKind.i64 t.till, D.int IntKind.i64 t.times, D.bool t.drains, D.int IntKind.i64 t.gone, D.int IntKind.i64 t.since, D.int IntKind.i64 t.active] := by
  exact ⟨⟨pure_pairD _, okEl_pairD _, by rw [List.length_map]; have := h.2.2.1; omega⟩, by rw [List.isEmpty_map]⟩
def cpOneS (vs : List D) : Option DOut := match vs with | [.agg [a0, a1, a2, a3, a4, .sl f xs, a6, a7, a8, a9, a10, a11, a12, a13, a14, a15, a16, a17, a18, a19, a20]] => some ⟨∃ t : Stat, t.small ∧ .agg [a0, a1, a2, a3, a4, .sl f xs, a6, a7, a8, a9, a10, a11, a12, a13, a14, a15, a16, a17, a18, a19, a20] = statD t, .agg [a0, a1, a2, a3, a4, .sl xs.isEmpty xs, a6, a7, a8, a9, a10, a11, a12, a13, a14, a15, a16, a17, a18, a19, a20]⟩ | _ => none
def cpOneC : Ctr := ⟨57, cpOneS, by
  intro vs o ho hp
  unfold cpOneS at ho
  split at ho
  · injection ho with ho; subst ho
    obtain ⟨t, h1, h2⟩ := hp
    simp only at h2 ⊢
    have hr : (DOut.mk True (statD t.cp)).r = statD t.cp := rfl
    rw [h2]
    injection h2 with h2
    simp only [List.cons.injEq, D.sl.injEq, true_and, and_true] at h2
    obtain ⟨k0, k1, k2, k3, k4, ⟨_, k5⟩, k6, k7, k8, k9, k10, k11, k12, k13, k14, k15, k16, k17, k18, k19, k20⟩ := h2
    subst k0 k1 k2 k3 k4 k5 k6 k7 k8 k9 k10 k11 k12 k13 k14 k15 k16 k17 k18 k19 k20
    have he : D.agg [.int .i64 t.id, .str t.addr, .int .i64 t.prio, .str t.zone, .int .i64 t.w, .sl (t.mt.map pairD).isEmpty (t.mt.map pairD), .bool t.up, .int .i64 t.run, .int .i64 t.forced, .int .i64 t.wait, .int .i64 t.errors, .int .i64 t.bok, .int .i64 t.ball, .bool t.out, .int .i64 t.frm, .int .i64 t.till, .int .i64 t.times, .bool t.drains, .int .i64 t.gone, .int .i64 t.since, .int .i64 t.active] = statD t.cp := by rw [List.isEmpty_map]; rfl
    rw [he]
    exact dataFun0 (C := nCfg 0 [copyHostC] [] []) (ctrs_ok [copyHostC] rfl rfl) rfl Try.func57 (by kernel_rfl) (by kernel_rfl) (by kernel_rfl) (by kernel_rfl) (by kernel_rfl) (cpOneN t h1)
  · cases ho⟩
end Go.Proofs.Ytgibpomhiilehaa.Dv
