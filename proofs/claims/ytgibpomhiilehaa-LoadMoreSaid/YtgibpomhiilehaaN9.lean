/- Rows of what is known of hosts, gathered by the pages (printed by wip/tools/gath.py). -/
import Derived.Test.YtgibpomhiilehaaN1
set_option linter.unusedVariables false
set_option linter.unusedSimpArgs false
namespace Go.Proofs.Ytgibpomhiilehaa.Dv
open Go Go.Proofs
theorem hc'Nil (f : Bool) (a c e : Int) (b d : ByteArray) : true = true ∧ (nilT D = [] → D.agg [D.int IntKind.i64 a, D.str b, D.int IntKind.i64 c, D.str d, D.int IntKind.i64 e, D.sl true []] = D.agg [D.int IntKind.i64 a, D.str b, D.int IntKind.i64 c, D.str d, D.int IntKind.i64 e, D.sl true []]) ∧ ((nilT D = [] → False) → true = true ∧ true = true ∧ (0 : Nat) ≤ (140737488355328 : Nat) ∧ (0 : Nat) ≤ (0 : Nat) ∧ true = true ∧ D.agg [D.int IntKind.i64 a, D.str b, D.int IntKind.i64 c, D.str d, D.int IntKind.i64 e, D.sl false []] = D.agg [D.int IntKind.i64 a, D.str b, D.int IntKind.i64 c, D.str d, D.int IntKind.i64 e, D.sl true []]) := by
  repeat' (first | (intro _) | (apply And.intro))
  all_goals first
    | rfl
    | trivial
    | (intros; contradiction)
    | omega
    | simp_all
theorem hc'Cons (f : Bool) (a c e : Int) (b d : ByteArray) (x : D) (xs : List D) (h1 : (x :: xs).all D.pure = true) (h2 : (x :: xs).all (okEl 2) = true) (h3 : (x :: xs).length * 32 ≤ 140737488355328) : (x :: xs).all (okEl (ti Try.prog (139 : Nat)).sz) = true ∧ (x :: xs = [] → D.agg [D.int IntKind.i64 a, D.str b, D.int IntKind.i64 c, D.str d, D.int IntKind.i64 e, D.sl true []] = D.agg [D.int IntKind.i64 a, D.str b, D.int IntKind.i64 c, D.str d, D.int IntKind.i64 e, D.sl false (x :: xs)]) ∧ ((x :: xs = [] → False) → true = true ∧ true = true ∧ ((0 : Nat) + (x :: xs).length) * (32 : Nat) ≤ (140737488355328 : Nat) ∧ (0 : Nat) + ((0 : Nat) + (x :: xs).length) ≤ (x :: xs).length ∧ (List.take ((0 : Nat) + (x :: xs).length) (x :: xs)).all D.pure = true ∧ D.agg [D.int IntKind.i64 a, D.str b, D.int IntKind.i64 c, D.str d, D.int IntKind.i64 e, D.sl false (List.take ((0 : Nat) + (x :: xs).length) (x :: xs))] = D.agg [D.int IntKind.i64 a, D.str b, D.int IntKind.i64 c, D.str d, D.int IntKind.i64 e, D.sl false (x :: xs)]) := by
  have ht : List.take (0 + (x :: xs).length) (x :: xs) = x :: xs := by rw [Nat.zero_add, List.take_length]
  rw [ht, show (ti Try.prog 139).sz = 2 by kernel_rfl]
  exact ⟨h2, (fun h => by cases h), fun _ => ⟨rfl, by trivial, by omega, by omega, h1, rfl⟩⟩
def copyHostC : Ctr := ⟨82, hcS, by
  intro vs o ho hp
  unfold hcS at ho
  split at ho
  · rename_i a b c d e f xs
    injection ho with ho; subst ho
    obtain ⟨h1, h2, h3⟩ := hp
    cases xs with
    | nil => exact dataFun0 (C := nCfg 0 [] [] []) (ctrs_ok [] rfl rfl) rfl Try.func82 (by kernel_rfl) (by kernel_rfl) (by kernel_rfl) (by kernel_rfl) (by kernel_rfl) (hc'Nil f a c e b d)
    | cons x xs =>
      have hr : frz 0 [] (.agg [.int .i64 a, .str b, .int .i64 c, .str d, .int .i64 e, .sl false (x :: xs)]) = some (.agg [.int .i64 a, .str b, .int .i64 c, .str d, .int .i64 e, .sl false (x :: xs)]) := rfl
      exact dataFun0 (C := nCfg 0 [] [] []) (ctrs_ok [] rfl rfl) rfl Try.func82 (by kernel_rfl) (by kernel_rfl) (by kernel_rfl) hr (by kernel_rfl) (hc'Cons f a c e b d x xs h1 h2 h3)
  · cases ho⟩
theorem cpOneN (t : Stat) (h : t.small) : ((List.map pairD t.mt).all D.pure = true ∧ (List.map pairD t.mt).all (okEl (2 : Nat)) = true ∧ (List.map pairD t.mt).length * (32 : Nat) ≤ (140737488355328 : Nat)) ∧ D.agg [D.int IntKind.i64 t.id, D.str t.addr, D.int IntKind.i64 t.prio, D.str t.zone, D.int IntKind.i64 t.w, D.sl (List.map pairD t.mt).isEmpty (List.map pairD t.mt), D.bool t.up, D.int IntKind.i64 t.run, D.int IntKind.i64 t.forced, D.int IntKind.i64 t.wait, D.int IntKind.i64 t.errors, D.int IntKind.i64 t.bok, D.int IntKind.i64 t.ball, D.bool t.out, D.int IntKind.i64 t.frm, D.int IntKind.i64 t.till, D.int IntKind.i64 t.times, D.bool t.drains, D.int IntKind.i64 t.gone, D.int IntKind.i64 t.since, D.int IntKind.i64 t.active] = D.agg [D.int IntKind.i64 t.id, D.str t.addr, D.int IntKind.i64 t.prio, D.str t.zone, D.int IntKind.i64 t.w, D.sl t.mt.isEmpty (List.map pairD t.mt), D.bool t.up, D.int IntKind.i64 t.run, D.int IntKind.i64 t.forced, D.int IntKind.i64 t.wait, D.int IntKind.i64 t.errors, D.int IntKind.i64 t.bok, D.int IntKind.i64 t.ball, D.bool t.out, D.int IntKind.i64 t.frm, D.int IntKind.i64 t.till, D.int IntKind.i64 t.times, D.bool t.drains, D.int IntKind.i64 t.gone, D.int IntKind.i64 t.since, D.int IntKind.i64 t.active] := by
  exact ⟨⟨pure_pairD _, okEl_pairD _, by rw [List.length_map]; have := h.2.2.1; omega⟩, by rw [List.isEmpty_map]⟩
def cpOneS (vs : List D) : Option DOut := match vs with | [.agg [a0, a1, a2, a3, a4, .sl f xs, a6, a7, a8, a9, a10, a11, a12, a13, a14, a15, a16, a17, a18, a19, a20]] => some ⟨∃ t : Stat, t.small ∧ .agg [a0, a1, a2, a3, a4, .sl f xs, a6, a7, a8, a9, a10, a11, a12, a13, a14, a15, a16, a17, a18, a19, a20] = statD t, .agg [a0, a1, a2, a3, a4, .sl xs.isEmpty xs, a6, a7, a8, a9, a10, a11, a12, a13, a14, a15, a16, a17, a18, a19, a20]⟩ | _ => none
def cpOneC : Ctr := ⟨57, cpOneS, by
  intro vs o ho hp
  unfold cpOneS at ho
  split at ho
  · injection ho with ho; subst ho
    obtain ⟨t, h1, h2⟩ := hp
    simp only at h2 ⊢
    have hr : (DOut.mk True (statD t.cp)).r = statD t.cp := rfl
    rw [h2]
    injection h2 with h2
    simp only [List.cons.injEq, D.sl.injEq, true_and, and_true] at h2
    obtain ⟨k0, k1, k2, k3, k4, ⟨_, k5⟩, k6, k7, k8, k9, k10, k11, k12, k13, k14, k15, k16, k17, k18, k19, k20⟩ := h2
    subst k0 k1 k2 k3 k4 k5 k6 k7 k8 k9 k10 k11 k12 k13 k14 k15 k16 k17 k18 k19 k20
    have he : D.agg [.int .i64 t.id, .str t.addr, .int .i64 t.prio, .str t.zone, .int .i64 t.w, .sl (t.mt.map pairD).isEmpty (t.mt.map pairD), .bool t.up, .int .i64 t.run, .int .i64 t.forced, .int .i64 t.wait, .int .i64 t.errors, .int .i64 t.bok, .int .i64 t.ball, .bool t.out, .int .i64 t.frm, .int .i64 t.till, .int .i64 t.times, .bool t.drains, .int .i64 t.gone, .int .i64 t.since, .int .i64 t.active] = statD t.cp := by rw [List.isEmpty_map]; rfl
    rw [he]
    exact dataFun0 (C := nCfg 0 [copyHostC] [] []) (ctrs_ok [copyHostC] rfl rfl) rfl Try.func57 (by kernel_rfl) (by kernel_rfl) (by kernel_rfl) (by kernel_rfl) (by kernel_rfl) (cpOneN t h1)
  · cases ho⟩
/-! ### who is free -/
def freeT (t : Stat) : Bool := !t.drains && (decide (t.forced = 2) || (decide (t.forced = 0) && t.up)) && !t.out
def welS (vs : List D) : Option DOut := match vs with | [.agg [.bool u, .int .i64 r, .int .i64 f, .int .i64 w]] => some ⟨True, .bool (decide (f = 2) || (decide (f = 0) && u))⟩ | _ => none
def freS (vs : List D) : Option DOut := match vs with | [.agg [a0, a1, a2, a3, a4, a5, .bool u, a7, .int .i64 f, a9, a10, a11, a12, .bool oo, a14, a15, a16, .bool d, a18, a19, a20]] => some ⟨∃ t : Stat, .agg [a0, a1, a2, a3, a4, a5, .bool u, a7, .int .i64 f, a9, a10, a11, a12, .bool oo, a14, a15, a16, .bool d, a18, a19, a20] = statD t, .bool (!d && (decide (f = 2) || (decide (f = 0) && u)) && !oo)⟩ | _ => none

theorem welN (u : Bool) (r f w : Int) : (decide (f = (2 : Int)) = true → D.bool true = D.bool (decide (f = (2 : Int)) || decide (f = (0 : Int)) && u)) ∧ (decide (f = (2 : Int)) = false → (decide (f = (0 : Int)) = true → D.bool u = D.bool (decide (f = (2 : Int)) || decide (f = (0 : Int)) && u)) ∧ (decide (f = (0 : Int)) = false → D.bool false = D.bool (decide (f = (2 : Int)) || decide (f = (0 : Int)) && u))) := by
  refine ⟨fun h => ?_, fun h => ⟨fun h2 => ?_, fun h2 => ?_⟩⟩
  · rw [h]; rfl
  · rw [h, h2]; rfl
  · rw [h, h2]; rfl
def welC : Ctr := ⟨103, welS, by
  intro vs o ho hp
  unfold welS at ho
  split at ho
  · rename_i u r f w; injection ho with ho; subst ho
    exact dataFun0 (C := nCfg 0 [] [] []) (ctrs_ok [] rfl rfl) rfl Try.func103 (by kernel_rfl) (by kernel_rfl) (by kernel_rfl) (by kernel_rfl) (by kernel_rfl) (welN u r f w)
  · cases ho⟩
theorem freN (t : Stat) : ((!t.drains) = true → True ∧ ((decide (t.forced = (2 : Int)) || decide (t.forced = (0 : Int)) && t.up) = true → (D.bool !t.out) = D.bool (freeT t)) ∧ ((decide (t.forced = (2 : Int)) || decide (t.forced = (0 : Int)) && t.up) = false → D.bool false = D.bool (freeT t))) ∧ ((!t.drains) = false → D.bool false = D.bool (freeT t)) := by
  unfold freeT
  refine ⟨fun h => ⟨trivial, fun h2 => ?_, fun h2 => ?_⟩, fun h => ?_⟩
  · rw [h, h2]; rfl
  · rw [h, h2]; rfl
  · rw [h]; rfl
def freeC : Ctr := ⟨67, freS, by
  intro vs o ho hp
  unfold freS at ho
  split at ho
  · rename_i u a7 f a9 a10 a11 a12 oo a14 a15 a16 dd a18 a19 a20
    injection ho with ho; subst ho
    obtain ⟨t, ht⟩ := hp
    simp only at ht ⊢
    rw [ht]
    injection ht with ht
    simp only [List.cons.injEq, D.bool.injEq, D.int.injEq, true_and, and_true] at ht
    obtain ⟨_, _, _, _, _, _, k6, _, k8, _, _, _, _, k13, _, _, _, k17, _⟩ := ht
    subst k6 k8 k13 k17
    exact dataFun0 (C := nCfg 0 [welC] [] []) (ctrs_ok [welC] rfl rfl) rfl Try.func67 (by kernel_rfl) (by kernel_rfl) (by kernel_rfl) (by kernel_rfl) (by kernel_rfl) (freN t)
  · cases ho⟩

theorem welN' (u : Bool) (r f w : Int) : (decide (f = (2 : Int)) = true → D.bool true = D.bool (decide (f = (2 : Int)) || decide (f = (0 : Int)) && u)) ∧ (decide (f = (2 : Int)) = false → (decide (f = (0 : Int)) = true → D.bool u = D.bool (decide (f = (2 : Int)) || decide (f = (0 : Int)) && u)) ∧ (decide (f = (0 : Int)) = false → D.bool false = D.bool (decide (f = (2 : Int)) || decide (f = (0 : Int)) && u))) := by
  refine ⟨fun h => ?_, fun h => ⟨fun h2 => ?_, fun h2 => ?_⟩⟩
  · rw [h]; rfl
  · rw [h, h2]; rfl
  · rw [h, h2]; rfl
def welC' : Ctr := ⟨122, welS, by
  intro vs o ho hp
  unfold welS at ho
  split at ho
  · rename_i u r f w; injection ho with ho; subst ho
    exact dataFun0 (C := nCfg 0 [] [] []) (ctrs_ok [] rfl rfl) rfl Try.func122 (by kernel_rfl) (by kernel_rfl) (by kernel_rfl) (by kernel_rfl) (by kernel_rfl) (welN' u r f w)
  · cases ho⟩
theorem freN' (t : Stat) : ((!t.drains) = true → True ∧ ((decide (t.forced = (2 : Int)) || decide (t.forced = (0 : Int)) && t.up) = true → (D.bool !t.out) = D.bool (freeT t)) ∧ ((decide (t.forced = (2 : Int)) || decide (t.forced = (0 : Int)) && t.up) = false → D.bool false = D.bool (freeT t))) ∧ ((!t.drains) = false → D.bool false = D.bool (freeT t)) := by
  unfold freeT
  refine ⟨fun h => ⟨trivial, fun h2 => ?_, fun h2 => ?_⟩, fun h => ?_⟩
  · rw [h, h2]; rfl
  · rw [h, h2]; rfl
  · rw [h]; rfl
def freeC' : Ctr := ⟨102, freS, by
  intro vs o ho hp
  unfold freS at ho
  split at ho
  · rename_i u a7 f a9 a10 a11 a12 oo a14 a15 a16 dd a18 a19 a20
    injection ho with ho; subst ho
    obtain ⟨t, ht⟩ := hp
    simp only at ht ⊢
    rw [ht]
    injection ht with ht
    simp only [List.cons.injEq, D.bool.injEq, D.int.injEq, true_and, and_true] at ht
    obtain ⟨_, _, _, _, _, _, k6, _, k8, _, _, _, _, k13, _, _, _, k17, _⟩ := ht
    subst k6 k8 k13 k17
    exact dataFun0 (C := nCfg 0 [welC'] [] []) (ctrs_ok [welC'] rfl rfl) rfl Try.func102 (by kernel_rfl) (by kernel_rfl) (by kernel_rfl) (by kernel_rfl) (by kernel_rfl) (freN' t)
  · cases ho⟩

/-! ### triage/triageref10.Members -/
def pmb (t : Stat) : Bool := !t.drains
def gamb (l : List Stat) : List Stat := (l.filter (pmb)).map Stat.cp
theorem gamb_yes {a : List Stat} {t : Stat} (h : pmb t = true) : gamb (a ++ [t]) = gamb a ++ [t.cp] := by unfold gamb; simp [List.filter_append, List.filter_cons, h]
theorem gamb_no {a : List Stat} {t : Stat} (h : pmb t = false) : gamb (a ++ [t]) = gamb a := by unfold gamb; simp [List.filter_append, List.filter_cons, h]
theorem gamb_len (a : List Stat) : (gamb a).length ≤ a.length := by unfold gamb; rw [List.length_map]; exact List.length_filter_le ..
theorem gamb_small {l : List Stat} (h : ∀ t ∈ l, t.small) : ∀ t ∈ gamb l, t.small := by
  intro t ht
  unfold gamb at ht
  obtain ⟨u, hu, rfl⟩ := List.mem_map.1 ht
  exact h u (List.mem_filter.1 hu).1
noncomputable def glmb : List Ctr := [cpOneC]
def gLmb (f : Bool) (all : List Stat) : WLoop :=
  { St := List Stat × List Stat × List Stat
    O := List Stat
    T := fun s => [(3, outD 0 (s.2.2.map statD)), (6, .sl f (all.map statD)), (7, .int .i64 (all.map statD).length), (8, .int .i64 s.1.length)]
    S := fun s => [outO 21 (s.2.2.map statD)]
    ok := fun s => s.1 ++ s.2.1 = all ∧ gamb s.1 = s.2.2 ∧ all.length ≤ 1000 ∧ ∀ t ∈ s.2.1, t.small
    μ := fun s => s.2.1.length
    m := fun _ => gamb all
    src := [(0, true)]
    alts := [[(3, true)]]
    outs := [{ α := Unit, is := fun o _ => o = [], ex := .exit 0, T := fun _ => [(3, .sl true [])] },
      { α := Stat × List Stat, is := fun o a => o = a.1 :: a.2, ex := .exit 0, src := [(0, true)], T := fun a => [(3, outD 0 ((a.1 :: a.2).map statD))], S := fun a => [outO 21 ((a.1 :: a.2).map statD)] }] }
theorem gRmb (f : Bool) (all : List Stat) (s : (gLmb f all).St) (hs : (gLmb f all).ok s) : Tri Try.prog 0 22 (lp Try.f33 3) (tb ((gLmb f all).T s)) ((gLmb f all).S s) ((gLmb f all).q 0 s) := by
  obtain ⟨a, r, u⟩ := s
  obtain ⟨h1, h2, h3, h4⟩ := hs
  simp only at h1 h2 h4
  cases r with
  | nil =>
    rw [List.append_nil] at h1
    subst h1
    cases u with
    | nil =>
      refine round0 (C := nCfg 0 glmb [] [(9, .f)]) (ctrs_ok (glmb) rfl rfl) (by kernel_rfl) (by kernel_rfl) (q := decide ((↑a.length : Int) < (↑(List.map statD a).length : Int)) = false ∧ ((∃ (a_1 : Unit), gamb a = [] ∧ D.sl true [] = D.sl true []) ∨ ∃ (a_1 : Stat × List Stat), gamb a = a_1.fst :: a_1.snd ∧ D.ms (0 : Nat) (0 : Nat) (List.map statD (a_1.fst :: a_1.snd)).length (List.map statD (a_1.fst :: a_1.snd)).length false = D.sl true [] ∧ (some (Ob.row St.own (21 : Nat) (List.map statD (a_1.fst :: a_1.snd))) = none ∨ some (Ob.row St.own (21 : Nat) (List.map statD (a_1.fst :: a_1.snd))) = none ∧ False))) (by kernel_rfl) ?_
      exact ⟨by simp, .inl ⟨(), h2, rfl⟩⟩
    | cons y ys =>
      refine round0 (C := nCfg 0 glmb [] [(9, .f)]) (ctrs_ok (glmb) rfl rfl) (by kernel_rfl) (by kernel_rfl) (q := decide ((↑a.length : Int) < (↑(List.map statD a).length : Int)) = false ∧ ((∃ (a_1 : Unit), gamb a = [] ∧ D.sl true [] = D.any) ∨ ∃ (a_1 : Stat × List Stat), gamb a = a_1.fst :: a_1.snd ∧ D.ms (0 : Nat) (0 : Nat) (List.map statD (a_1.fst :: a_1.snd)).length (List.map statD (a_1.fst :: a_1.snd)).length false = D.ms (0 : Nat) (0 : Nat) (List.map statD (y :: ys)).length (List.map statD (y :: ys)).length false ∧ (some (Ob.row St.own (21 : Nat) (List.map statD (a_1.fst :: a_1.snd))) = none ∨ some (Ob.row St.own (21 : Nat) (List.map statD (a_1.fst :: a_1.snd))) = some (Ob.row St.own (21 : Nat) (List.map statD (y :: ys))) ∧ (List.map statD (y :: ys)).all D.pure = true))) (by kernel_rfl) ?_
      exact ⟨by simp, .inr ⟨(y, ys), h2, rfl, .inr ⟨rfl, pure_statD _⟩⟩⟩
  | cons t r =>
    have hl : a.length + (r.length + 1) ≤ 1000 := by rw [← h1] at h3; simpa using h3
    have ht := h4 t (List.mem_cons_self ..)
    have h4' : ∀ x ∈ r, x.small := fun x hx => h4 x (List.mem_cons_of_mem _ hx)
    have hall : (a ++ [t]) ++ r = all := by rw [← h1]; simp
    have hg : (List.map statD all)[((a.length : Int)).toNat]? = some (statD t) := by rw [← h1]; exact get_midI statD a t r
    have hll : ((a.length : Int) < ((List.map statD all).length : Int)) := by rw [← h1]; simp; omega
    have hix : D.int .i64 ((a ++ [t]).length : Int) = D.int .i64 ((a.length : Int) + 1) := by simp
    have hin : inK .i64 ((a.length : Int) + 1) := by simp only [inK]; omega
    have hie : (List.map pairD t.mt).isEmpty = t.mt.isEmpty := List.isEmpty_map
    cases u with
    | nil =>
      refine round0 (C := nCfg 0 glmb [] [(9, .t)]) (ctrs_ok (glmb) rfl rfl) (by kernel_rfl) (by kernel_rfl) (q := decide ((↑a.length : Int) < (↑(List.map statD all).length : Int)) = true ∧ ∃ (y : Stat), (0 : Int) ≤ (↑a.length : Int) ∧ (List.map statD all)[(↑a.length : Int).toNat]? = some (D.agg [D.int IntKind.i64 y.id, D.str y.addr, D.int IntKind.i64 y.prio, D.str y.zone, D.int IntKind.i64 y.w, D.sl y.f (List.map pairD y.mt), D.bool y.up, D.int IntKind.i64 y.run, D.int IntKind.i64 y.forced, D.int IntKind.i64 y.wait, D.int IntKind.i64 y.errors, D.int IntKind.i64 y.bok, D.int IntKind.i64 y.ball, D.bool y.out, D.int IntKind.i64 y.frm, D.int IntKind.i64 y.till, D.int IntKind.i64 y.times, D.bool y.drains, D.int IntKind.i64 y.gone, D.int IntKind.i64 y.since, D.int IntKind.i64 y.active]) ∧ ((!y.drains) = true → (∃ (t : Stat), t.small ∧ D.agg [D.int IntKind.i64 y.id, D.str y.addr, D.int IntKind.i64 y.prio, D.str y.zone, D.int IntKind.i64 y.w, D.sl y.f (List.map pairD y.mt), D.bool y.up, D.int IntKind.i64 y.run, D.int IntKind.i64 y.forced, D.int IntKind.i64 y.wait, D.int IntKind.i64 y.errors, D.int IntKind.i64 y.bok, D.int IntKind.i64 y.ball, D.bool y.out, D.int IntKind.i64 y.frm, D.int IntKind.i64 y.till, D.int IntKind.i64 y.times, D.bool y.drains, D.int IntKind.i64 y.gone, D.int IntKind.i64 y.since, D.int IntKind.i64 y.active] = D.agg [D.int IntKind.i64 t.id, D.str t.addr, D.int IntKind.i64 t.prio, D.str t.zone, D.int IntKind.i64 t.w, D.sl t.f (List.map pairD t.mt), D.bool t.up, D.int IntKind.i64 t.run, D.int IntKind.i64 t.forced, D.int IntKind.i64 t.wait, D.int IntKind.i64 t.errors, D.int IntKind.i64 t.bok, D.int IntKind.i64 t.ball, D.bool t.out, D.int IntKind.i64 t.frm, D.int IntKind.i64 t.till, D.int IntKind.i64 t.times, D.bool t.drains, D.int IntKind.i64 t.gone, D.int IntKind.i64 t.since, D.int IntKind.i64 t.active]) ∧ inK IntKind.i64 ((↑a.length : Int) + (1 : Int)) ∧ ((∃ (s' : List Stat × List Stat × List Stat), (s'.fst ++ s'.snd.fst = all ∧ gamb s'.fst = s'.snd.snd ∧ all.length ≤ (1000 : Nat) ∧ ∀ (t : Stat), List.Mem t s'.snd.fst → t.small) ∧ s'.snd.fst.length.succ ≤ (t :: r).length ∧ gamb all = gamb all ∧ (outD (0 : Nat) (List.map statD s'.snd.snd) = D.any ∧ D.sl f (List.map statD all) = D.sl f (List.map statD all) ∧ D.int IntKind.i64 (↑(List.map statD all).length : Int) = D.int IntKind.i64 (↑(List.map statD all).length : Int) ∧ D.int IntKind.i64 (↑s'.fst.length : Int) = D.int IntKind.i64 ((↑a.length : Int) + (1 : Int))) ∧ (outO (21 : Nat) (List.map statD s'.snd.snd) = none ∨ outO (21 : Nat) (List.map statD s'.snd.snd) = none ∧ False)) ∨ ∃ (s' : List Stat × List Stat × List Stat), (s'.fst ++ s'.snd.fst = all ∧ gamb s'.fst = s'.snd.snd ∧ all.length ≤ (1000 : Nat) ∧ ∀ (t : Stat), List.Mem t s'.snd.fst → t.small) ∧ s'.snd.fst.length.succ ≤ (t :: r).length ∧ gamb all = gamb all ∧ (outD (0 : Nat) (List.map statD s'.snd.snd) = D.ms (0 : Nat) (0 : Nat) (1 : Nat) (1 : Nat) false ∧ D.sl f (List.map statD all) = D.sl f (List.map statD all) ∧ D.int IntKind.i64 (↑(List.map statD all).length : Int) = D.int IntKind.i64 (↑(List.map statD all).length : Int) ∧ D.int IntKind.i64 (↑s'.fst.length : Int) = D.int IntKind.i64 ((↑a.length : Int) + (1 : Int))) ∧ (outO (21 : Nat) (List.map statD s'.snd.snd) = none ∨ outO (21 : Nat) (List.map statD s'.snd.snd) = some (Ob.row St.own (21 : Nat) [D.agg [D.int IntKind.i64 y.id, D.str y.addr, D.int IntKind.i64 y.prio, D.str y.zone, D.int IntKind.i64 y.w, D.sl (List.map pairD y.mt).isEmpty (List.map pairD y.mt), D.bool y.up, D.int IntKind.i64 y.run, D.int IntKind.i64 y.forced, D.int IntKind.i64 y.wait, D.int IntKind.i64 y.errors, D.int IntKind.i64 y.bok, D.int IntKind.i64 y.ball, D.bool y.out, D.int IntKind.i64 y.frm, D.int IntKind.i64 y.till, D.int IntKind.i64 y.times, D.bool y.drains, D.int IntKind.i64 y.gone, D.int IntKind.i64 y.since, D.int IntKind.i64 y.active]]) ∧ true = true))) ∧ ((!y.drains) = false → inK IntKind.i64 ((↑a.length : Int) + (1 : Int)) ∧ ((∃ (s' : List Stat × List Stat × List Stat), (s'.fst ++ s'.snd.fst = all ∧ gamb s'.fst = s'.snd.snd ∧ all.length ≤ (1000 : Nat) ∧ ∀ (t : Stat), List.Mem t s'.snd.fst → t.small) ∧ s'.snd.fst.length.succ ≤ (t :: r).length ∧ gamb all = gamb all ∧ (outD (0 : Nat) (List.map statD s'.snd.snd) = D.sl true [] ∧ D.sl f (List.map statD all) = D.sl f (List.map statD all) ∧ D.int IntKind.i64 (↑(List.map statD all).length : Int) = D.int IntKind.i64 (↑(List.map statD all).length : Int) ∧ D.int IntKind.i64 (↑s'.fst.length : Int) = D.int IntKind.i64 ((↑a.length : Int) + (1 : Int))) ∧ (outO (21 : Nat) (List.map statD s'.snd.snd) = none ∨ outO (21 : Nat) (List.map statD s'.snd.snd) = none ∧ False)) ∨ ∃ (s' : List Stat × List Stat × List Stat), (s'.fst ++ s'.snd.fst = all ∧ gamb s'.fst = s'.snd.snd ∧ all.length ≤ (1000 : Nat) ∧ ∀ (t : Stat), List.Mem t s'.snd.fst → t.small) ∧ s'.snd.fst.length.succ ≤ (t :: r).length ∧ gamb all = gamb all ∧ (outD (0 : Nat) (List.map statD s'.snd.snd) = D.sl true [] ∧ D.sl f (List.map statD all) = D.sl f (List.map statD all) ∧ D.int IntKind.i64 (↑(List.map statD all).length : Int) = D.int IntKind.i64 (↑(List.map statD all).length : Int) ∧ D.int IntKind.i64 (↑s'.fst.length : Int) = D.int IntKind.i64 ((↑a.length : Int) + (1 : Int))) ∧ (outO (21 : Nat) (List.map statD s'.snd.snd) = none ∨ outO (21 : Nat) (List.map statD s'.snd.snd) = none ∧ False)))) (by kernel_rfl) ?_
      refine ⟨decide_eq_true hll, t, by omega, hg, fun hb => ⟨⟨t, ht, rfl⟩, hin, .inr ⟨(a ++ [t], r, [t.cp]), ⟨hall, by rw [gamb_yes hb, h2]; rfl, h3, h4'⟩, Nat.le_refl _, rfl, ?_, .inr ⟨?_, by first | rfl | trivial⟩⟩⟩, fun hb => ⟨hin, .inl ⟨(a ++ [t], r, []), ⟨hall, by rw [gamb_no hb, h2], h3, h4'⟩, Nat.le_refl _, rfl, ?_, .inl rfl⟩⟩⟩
      all_goals repeat' apply And.intro
      all_goals first
        | rfl
        | exact hix
        | (rw [hie]; rfl)
    | cons y ys =>
      refine round0 (C := nCfg 0 glmb [] [(9, .t)]) (ctrs_ok (glmb) rfl rfl) (by kernel_rfl) (by kernel_rfl) (q := decide ((↑a.length : Int) < (↑(List.map statD all).length : Int)) = true ∧ ∃ (y_1 : Stat), (0 : Int) ≤ (↑a.length : Int) ∧ (List.map statD all)[(↑a.length : Int).toNat]? = some (D.agg [D.int IntKind.i64 y_1.id, D.str y_1.addr, D.int IntKind.i64 y_1.prio, D.str y_1.zone, D.int IntKind.i64 y_1.w, D.sl y_1.f (List.map pairD y_1.mt), D.bool y_1.up, D.int IntKind.i64 y_1.run, D.int IntKind.i64 y_1.forced, D.int IntKind.i64 y_1.wait, D.int IntKind.i64 y_1.errors, D.int IntKind.i64 y_1.bok, D.int IntKind.i64 y_1.ball, D.bool y_1.out, D.int IntKind.i64 y_1.frm, D.int IntKind.i64 y_1.till, D.int IntKind.i64 y_1.times, D.bool y_1.drains, D.int IntKind.i64 y_1.gone, D.int IntKind.i64 y_1.since, D.int IntKind.i64 y_1.active]) ∧ ((!y_1.drains) = true → (∃ (t : Stat), t.small ∧ D.agg [D.int IntKind.i64 y_1.id, D.str y_1.addr, D.int IntKind.i64 y_1.prio, D.str y_1.zone, D.int IntKind.i64 y_1.w, D.sl y_1.f (List.map pairD y_1.mt), D.bool y_1.up, D.int IntKind.i64 y_1.run, D.int IntKind.i64 y_1.forced, D.int IntKind.i64 y_1.wait, D.int IntKind.i64 y_1.errors, D.int IntKind.i64 y_1.bok, D.int IntKind.i64 y_1.ball, D.bool y_1.out, D.int IntKind.i64 y_1.frm, D.int IntKind.i64 y_1.till, D.int IntKind.i64 y_1.times, D.bool y_1.drains, D.int IntKind.i64 y_1.gone, D.int IntKind.i64 y_1.since, D.int IntKind.i64 y_1.active] = D.agg [D.int IntKind.i64 t.id, D.str t.addr, D.int IntKind.i64 t.prio, D.str t.zone, D.int IntKind.i64 t.w, D.sl t.f (List.map pairD t.mt), D.bool t.up, D.int IntKind.i64 t.run, D.int IntKind.i64 t.forced, D.int IntKind.i64 t.wait, D.int IntKind.i64 t.errors, D.int IntKind.i64 t.bok, D.int IntKind.i64 t.ball, D.bool t.out, D.int IntKind.i64 t.frm, D.int IntKind.i64 t.till, D.int IntKind.i64 t.times, D.bool t.drains, D.int IntKind.i64 t.gone, D.int IntKind.i64 t.since, D.int IntKind.i64 t.active]) ∧ (0 : Nat) + (List.map statD (y :: ys)).length ≤ (List.map statD (y :: ys)).length ∧ (List.map statD (y :: ys)).length ≤ (List.map statD (y :: ys)).length ∧ ((List.map statD (y :: ys)).length + (1 : Nat)) * (200 : Nat) ≤ (140737488355328 : Nat) ∧ (List.map statD (y :: ys)).length.succ ≤ (List.map statD (y :: ys)).length + (1 : Nat) ∧ (0 : Nat) = (0 : Nat) ∧ inK IntKind.i64 ((↑a.length : Int) + (1 : Int)) ∧ ((∃ (s' : List Stat × List Stat × List Stat), (s'.fst ++ s'.snd.fst = all ∧ gamb s'.fst = s'.snd.snd ∧ all.length ≤ (1000 : Nat) ∧ ∀ (t : Stat), List.Mem t s'.snd.fst → t.small) ∧ s'.snd.fst.length.succ ≤ (t :: r).length ∧ gamb all = gamb all ∧ (outD (0 : Nat) (List.map statD s'.snd.snd) = D.any ∧ D.sl f (List.map statD all) = D.sl f (List.map statD all) ∧ D.int IntKind.i64 (↑(List.map statD all).length : Int) = D.int IntKind.i64 (↑(List.map statD all).length : Int) ∧ D.int IntKind.i64 (↑s'.fst.length : Int) = D.int IntKind.i64 ((↑a.length : Int) + (1 : Int))) ∧ (outO (21 : Nat) (List.map statD s'.snd.snd) = none ∨ outO (21 : Nat) (List.map statD s'.snd.snd) = none ∧ False)) ∨ ∃ (s' : List Stat × List Stat × List Stat), (s'.fst ++ s'.snd.fst = all ∧ gamb s'.fst = s'.snd.snd ∧ all.length ≤ (1000 : Nat) ∧ ∀ (t : Stat), List.Mem t s'.snd.fst → t.small) ∧ s'.snd.fst.length.succ ≤ (t :: r).length ∧ gamb all = gamb all ∧ (outD (0 : Nat) (List.map statD s'.snd.snd) = D.ms (0 : Nat) (0 : Nat) ((List.map statD (y :: ys)).length + (1 : Nat)) ((List.map statD (y :: ys)).length + (1 : Nat)) false ∧ D.sl f (List.map statD all) = D.sl f (List.map statD all) ∧ D.int IntKind.i64 (↑(List.map statD all).length : Int) = D.int IntKind.i64 (↑(List.map statD all).length : Int) ∧ D.int IntKind.i64 (↑s'.fst.length : Int) = D.int IntKind.i64 ((↑a.length : Int) + (1 : Int))) ∧ (outO (21 : Nat) (List.map statD s'.snd.snd) = none ∨ outO (21 : Nat) (List.map statD s'.snd.snd) = some (Ob.row St.own (21 : Nat) (List.take (List.map statD (y :: ys)).length (List.map statD (y :: ys)) ++ [D.agg [D.int IntKind.i64 y_1.id, D.str y_1.addr, D.int IntKind.i64 y_1.prio, D.str y_1.zone, D.int IntKind.i64 y_1.w, D.sl (List.map pairD y_1.mt).isEmpty (List.map pairD y_1.mt), D.bool y_1.up, D.int IntKind.i64 y_1.run, D.int IntKind.i64 y_1.forced, D.int IntKind.i64 y_1.wait, D.int IntKind.i64 y_1.errors, D.int IntKind.i64 y_1.bok, D.int IntKind.i64 y_1.ball, D.bool y_1.out, D.int IntKind.i64 y_1.frm, D.int IntKind.i64 y_1.till, D.int IntKind.i64 y_1.times, D.bool y_1.drains, D.int IntKind.i64 y_1.gone, D.int IntKind.i64 y_1.since, D.int IntKind.i64 y_1.active]])) ∧ (List.take (List.map statD (y :: ys)).length (List.map statD (y :: ys)) ++ [D.agg [D.int IntKind.i64 y_1.id, D.str y_1.addr, D.int IntKind.i64 y_1.prio, D.str y_1.zone, D.int IntKind.i64 y_1.w, D.sl (List.map pairD y_1.mt).isEmpty (List.map pairD y_1.mt), D.bool y_1.up, D.int IntKind.i64 y_1.run, D.int IntKind.i64 y_1.forced, D.int IntKind.i64 y_1.wait, D.int IntKind.i64 y_1.errors, D.int IntKind.i64 y_1.bok, D.int IntKind.i64 y_1.ball, D.bool y_1.out, D.int IntKind.i64 y_1.frm, D.int IntKind.i64 y_1.till, D.int IntKind.i64 y_1.times, D.bool y_1.drains, D.int IntKind.i64 y_1.gone, D.int IntKind.i64 y_1.since, D.int IntKind.i64 y_1.active]]).all D.pure = true))) ∧ ((!y_1.drains) = false → inK IntKind.i64 ((↑a.length : Int) + (1 : Int)) ∧ ((∃ (s' : List Stat × List Stat × List Stat), (s'.fst ++ s'.snd.fst = all ∧ gamb s'.fst = s'.snd.snd ∧ all.length ≤ (1000 : Nat) ∧ ∀ (t : Stat), List.Mem t s'.snd.fst → t.small) ∧ s'.snd.fst.length.succ ≤ (t :: r).length ∧ gamb all = gamb all ∧ (outD (0 : Nat) (List.map statD s'.snd.snd) = D.ms (0 : Nat) (0 : Nat) (List.map statD (y :: ys)).length (List.map statD (y :: ys)).length false ∧ D.sl f (List.map statD all) = D.sl f (List.map statD all) ∧ D.int IntKind.i64 (↑(List.map statD all).length : Int) = D.int IntKind.i64 (↑(List.map statD all).length : Int) ∧ D.int IntKind.i64 (↑s'.fst.length : Int) = D.int IntKind.i64 ((↑a.length : Int) + (1 : Int))) ∧ (outO (21 : Nat) (List.map statD s'.snd.snd) = none ∨ outO (21 : Nat) (List.map statD s'.snd.snd) = some (Ob.row St.own (21 : Nat) (List.map statD (y :: ys))) ∧ (List.map statD (y :: ys)).all D.pure = true)) ∨ ∃ (s' : List Stat × List Stat × List Stat), (s'.fst ++ s'.snd.fst = all ∧ gamb s'.fst = s'.snd.snd ∧ all.length ≤ (1000 : Nat) ∧ ∀ (t : Stat), List.Mem t s'.snd.fst → t.small) ∧ s'.snd.fst.length.succ ≤ (t :: r).length ∧ gamb all = gamb all ∧ (outD (0 : Nat) (List.map statD s'.snd.snd) = D.any ∧ D.sl f (List.map statD all) = D.sl f (List.map statD all) ∧ D.int IntKind.i64 (↑(List.map statD all).length : Int) = D.int IntKind.i64 (↑(List.map statD all).length : Int) ∧ D.int IntKind.i64 (↑s'.fst.length : Int) = D.int IntKind.i64 ((↑a.length : Int) + (1 : Int))) ∧ (outO (21 : Nat) (List.map statD s'.snd.snd) = none ∨ outO (21 : Nat) (List.map statD s'.snd.snd) = none ∧ False)))) (by kernel_rfl) ?_
      have hyl : (List.map statD (y :: ys)).length ≤ 1000 := by rw [List.length_map, ← h2]; have := gamb_len a; omega
      have he : List.map statD (y :: ys ++ [t.cp]) = List.map statD (y :: ys) ++ [statD t.cp] := List.map_append
      have ho1 : outD 0 (List.map statD (y :: ys ++ [t.cp])) = .ms 0 0 ((List.map statD (y :: ys)).length + 1) ((List.map statD (y :: ys)).length + 1) false := by
        rw [he, outD_snoc]
      have ho2 : outO 21 (List.map statD (y :: ys ++ [t.cp])) = some (.row .own 21 (List.take (List.map statD (y :: ys)).length (List.map statD (y :: ys)) ++ [statD t.cp])) := by
        rw [he, outO_snoc, List.take_length]
      have hq : (List.take (List.map statD (y :: ys)).length (List.map statD (y :: ys)) ++ [statD t.cp]).all D.pure = true := by
        rw [List.take_length, List.all_append, pure_statD]; rfl
      refine ⟨decide_eq_true hll, t, by omega, hg, fun hb => ⟨⟨t, ht, rfl⟩, by omega, Nat.le_refl _, by omega, Nat.le_refl _, rfl, hin, .inr ⟨(a ++ [t], r, y :: ys ++ [t.cp]), ⟨hall, by rw [gamb_yes hb, h2], h3, h4'⟩, Nat.le_refl _, rfl, ?_, .inr ⟨?_, ?_⟩⟩⟩, fun hb => ⟨hin, .inl ⟨(a ++ [t], r, y :: ys), ⟨hall, by rw [gamb_no hb, h2], h3, h4'⟩, Nat.le_refl _, rfl, ?_, .inr ⟨rfl, pure_statD _⟩⟩⟩⟩
      all_goals repeat' apply And.intro
      all_goals first
        | rfl
        | exact hix
        | exact ho1
        | (rw [hie]; exact ho2)
        | (rw [hie]; exact hq)
noncomputable def gCmb (f : Bool) (l : List Stat) : WCfg := { nCfg 0 glmb [] [] with loops := fun k => match k with | 3 => some ((gLmb f l).row [(0, true)]) | _ => none }
theorem gTmb (f : Bool) (l : List Stat) (h1 : l.length ≤ 1000) (h2 : ∀ t ∈ l, t.small) : ∃ (b : List Stat × List Stat × List Stat), (b.fst ++ b.snd.fst = l ∧ gamb b.fst = b.snd.snd ∧ l.length ≤ (1000 : Nat) ∧ ∀ (t : Stat), List.Mem t b.snd.fst → t.small) ∧ ((outD (0 : Nat) (List.map statD b.snd.snd) = D.sl true [] ∧ D.sl f (List.map statD l) = D.sl f (List.map statD l) ∧ D.int IntKind.i64 (↑(List.map statD l).length : Int) = D.int IntKind.i64 (↑(List.map statD l).length : Int) ∧ D.int IntKind.i64 (↑b.fst.length : Int) = D.int IntKind.i64 (0 : Int)) ∧ (outO (21 : Nat) (List.map statD b.snd.snd) = none ∨ outO (21 : Nat) (List.map statD b.snd.snd) = none ∧ False)) ∧ (∀ (a : Unit), gamb l = [] → D.sl true [] = D.sl (gamb l).isEmpty (List.map statD (gamb l))) ∧ ∀ (a : Stat × List Stat), gamb l = a.fst :: a.snd → (0 : Nat) + (List.map statD (a.fst :: a.snd)).length ≤ (List.map statD (a.fst :: a.snd)).length ∧ (List.take (List.map statD (a.fst :: a.snd)).length (List.drop (0 : Nat) (List.map statD (a.fst :: a.snd)))).all D.pure = true ∧ D.sl false (List.take (List.map statD (a.fst :: a.snd)).length (List.drop (0 : Nat) (List.map statD (a.fst :: a.snd)))) = D.sl (gamb l).isEmpty (List.map statD (gamb l)) := by
  refine ⟨([], l, []), ⟨rfl, rfl, h1, h2⟩, ⟨?_, .inl rfl⟩, fun _ h => by rw [h]; rfl, fun a h => ?_⟩
  · repeat' apply And.intro
    all_goals rfl
  · rw [h, List.drop_zero, List.take_length]
    exact ⟨by omega, pure_statD _, rfl⟩
def gSmb (vs : List D) : Option DOut := match vs with | [.sl f xs] => some ⟨∃ l : List Stat, xs = l.map statD ∧ l.length ≤ 1000 ∧ ∀ t ∈ l, t.small, .sl (gamb (xs.map dStat)).isEmpty ((gamb (xs.map dStat)).map statD)⟩ | _ => none
def gambC : Ctr := ⟨33, gSmb, by
  intro vs o ho hp
  unfold gSmb at ho
  split at ho
  · rename_i f xs
    injection ho with ho; subst ho
    obtain ⟨l, rfl, h1, h2⟩ := hp
    simp only [map_dStat]
    refine dataFunL (C := gCmb f l) (ctrs_ok glmb rfl rfl) rfl Try.func33 (by kernel_rfl) (l := [lp Try.f33 3]) (by kernel_rfl) ?_ (by kernel_rfl) (by kernel_rfl) (by kernel_rfl) (gTmb f l h1 h2)
    intro x hx
    rw [List.mem_singleton.1 hx]
    exact (gLmb f l).fits 3 [(0, true)] (by kernel_rfl) rfl (gRmb f l)
  · cases ho⟩

/-! ### triage/triageref10.Frees -/
def pfr (t : Stat) : Bool := freeT t
def gafr (l : List Stat) : List Stat := (l.filter (pfr)).map Stat.cp
theorem gafr_yes {a : List Stat} {t : Stat} (h : pfr t = true) : gafr (a ++ [t]) = gafr a ++ [t.cp] := by unfold gafr; simp [List.filter_append, List.filter_cons, h]
theorem gafr_no {a : List Stat} {t : Stat} (h : pfr t = false) : gafr (a ++ [t]) = gafr a := by unfold gafr; simp [List.filter_append, List.filter_cons, h]
theorem gafr_len (a : List Stat) : (gafr a).length ≤ a.length := by unfold gafr; rw [List.length_map]; exact List.length_filter_le ..
theorem gafr_small {l : List Stat} (h : ∀ t ∈ l, t.small) : ∀ t ∈ gafr l, t.small := by
  intro t ht
  unfold gafr at ht
  obtain ⟨u, hu, rfl⟩ := List.mem_map.1 ht
  exact h u (List.mem_filter.1 hu).1
noncomputable def glfr : List Ctr := [freeC, cpOneC]
def gLfr (f : Bool) (all : List Stat) : WLoop :=
  { St := List Stat × List Stat × List Stat
    O := List Stat
    T := fun s => [(3, outD 0 (s.2.2.map statD)), (6, .sl f (all.map statD)), (7, .int .i64 (all.map statD).length), (8, .int .i64 s.1.length)]
    S := fun s => [outO 21 (s.2.2.map statD)]
    ok := fun s => s.1 ++ s.2.1 = all ∧ gafr s.1 = s.2.2 ∧ all.length ≤ 1000 ∧ ∀ t ∈ s.2.1, t.small
    μ := fun s => s.2.1.length
    m := fun _ => gafr all
    src := [(0, true)]
    alts := [[(3, true)]]
    outs := [{ α := Unit, is := fun o _ => o = [], ex := .exit 0, T := fun _ => [(3, .sl true [])] },
      { α := Stat × List Stat, is := fun o a => o = a.1 :: a.2, ex := .exit 0, src := [(0, true)], T := fun a => [(3, outD 0 ((a.1 :: a.2).map statD))], S := fun a => [outO 21 ((a.1 :: a.2).map statD)] }] }
theorem gRfr (f : Bool) (all : List Stat) (s : (gLfr f all).St) (hs : (gLfr f all).ok s) : Tri Try.prog 0 21 (lp Try.f34 3) (tb ((gLfr f all).T s)) ((gLfr f all).S s) ((gLfr f all).q 0 s) := by
  obtain ⟨a, r, u⟩ := s
  obtain ⟨h1, h2, h3, h4⟩ := hs
  simp only at h1 h2 h4
  cases r with
  | nil =>
    rw [List.append_nil] at h1
    subst h1
    cases u with
    | nil =>
      refine round0 (C := nCfg 0 glfr [] [(9, .f)]) (ctrs_ok (glfr) rfl rfl) (by kernel_rfl) (by kernel_rfl) (q := decide ((↑a.length : Int) < (↑(List.map statD a).length : Int)) = false ∧ ((∃ (a_1 : Unit), gafr a = [] ∧ D.sl true [] = D.sl true []) ∨ ∃ (a_1 : Stat × List Stat), gafr a = a_1.fst :: a_1.snd ∧ D.ms (0 : Nat) (0 : Nat) (List.map statD (a_1.fst :: a_1.snd)).length (List.map statD (a_1.fst :: a_1.snd)).length false = D.sl true [] ∧ (some (Ob.row St.own (21 : Nat) (List.map statD (a_1.fst :: a_1.snd))) = none ∨ some (Ob.row St.own (21 : Nat) (List.map statD (a_1.fst :: a_1.snd))) = none ∧ False))) (by kernel_rfl) ?_
      exact ⟨by simp, .inl ⟨(), h2, rfl⟩⟩
    | cons y ys =>
      refine round0 (C := nCfg 0 glfr [] [(9, .f)]) (ctrs_ok (glfr) rfl rfl) (by kernel_rfl) (by kernel_rfl) (q := decide ((↑a.length : Int) < (↑(List.map statD a).length : Int)) = false ∧ ((∃ (a_1 : Unit), gafr a = [] ∧ D.sl true [] = D.any) ∨ ∃ (a_1 : Stat × List Stat), gafr a = a_1.fst :: a_1.snd ∧ D.ms (0 : Nat) (0 : Nat) (List.map statD (a_1.fst :: a_1.snd)).length (List.map statD (a_1.fst :: a_1.snd)).length false = D.ms (0 : Nat) (0 : Nat) (List.map statD (y :: ys)).length (List.map statD (y :: ys)).length false ∧ (some (Ob.row St.own (21 : Nat) (List.map statD (a_1.fst :: a_1.snd))) = none ∨ some (Ob.row St.own (21 : Nat) (List.map statD (a_1.fst :: a_1.snd))) = some (Ob.row St.own (21 : Nat) (List.map statD (y :: ys))) ∧ (List.map statD (y :: ys)).all D.pure = true))) (by kernel_rfl) ?_
      exact ⟨by simp, .inr ⟨(y, ys), h2, rfl, .inr ⟨rfl, pure_statD _⟩⟩⟩
  | cons t r =>
    have hl : a.length + (r.length + 1) ≤ 1000 := by rw [← h1] at h3; simpa using h3
    have ht := h4 t (List.mem_cons_self ..)
    have h4' : ∀ x ∈ r, x.small := fun x hx => h4 x (List.mem_cons_of_mem _ hx)
    have hall : (a ++ [t]) ++ r = all := by rw [← h1]; simp
    have hg : (List.map statD all)[((a.length : Int)).toNat]? = some (statD t) := by rw [← h1]; exact get_midI statD a t r
    have hll : ((a.length : Int) < ((List.map statD all).length : Int)) := by rw [← h1]; simp; omega
    have hix : D.int .i64 ((a ++ [t]).length : Int) = D.int .i64 ((a.length : Int) + 1) := by simp
    have hin : inK .i64 ((a.length : Int) + 1) := by simp only [inK]; omega
    have hie : (List.map pairD t.mt).isEmpty = t.mt.isEmpty := List.isEmpty_map
    cases u with
    | nil =>
      refine round0 (C := nCfg 0 glfr [] [(9, .t)]) (ctrs_ok (glfr) rfl rfl) (by kernel_rfl) (by kernel_rfl) (q := decide ((↑a.length : Int) < (↑(List.map statD all).length : Int)) = true ∧ ∃ (y : Stat), (0 : Int) ≤ (↑a.length : Int) ∧ (List.map statD all)[(↑a.length : Int).toNat]? = some (D.agg [D.int IntKind.i64 y.id, D.str y.addr, D.int IntKind.i64 y.prio, D.str y.zone, D.int IntKind.i64 y.w, D.sl y.f (List.map pairD y.mt), D.bool y.up, D.int IntKind.i64 y.run, D.int IntKind.i64 y.forced, D.int IntKind.i64 y.wait, D.int IntKind.i64 y.errors, D.int IntKind.i64 y.bok, D.int IntKind.i64 y.ball, D.bool y.out, D.int IntKind.i64 y.frm, D.int IntKind.i64 y.till, D.int IntKind.i64 y.times, D.bool y.drains, D.int IntKind.i64 y.gone, D.int IntKind.i64 y.since, D.int IntKind.i64 y.active]) ∧ (∃ (t : Stat), D.agg [D.int IntKind.i64 y.id, D.str y.addr, D.int IntKind.i64 y.prio, D.str y.zone, D.int IntKind.i64 y.w, D.sl y.f (List.map pairD y.mt), D.bool y.up, D.int IntKind.i64 y.run, D.int IntKind.i64 y.forced, D.int IntKind.i64 y.wait, D.int IntKind.i64 y.errors, D.int IntKind.i64 y.bok, D.int IntKind.i64 y.ball, D.bool y.out, D.int IntKind.i64 y.frm, D.int IntKind.i64 y.till, D.int IntKind.i64 y.times, D.bool y.drains, D.int IntKind.i64 y.gone, D.int IntKind.i64 y.since, D.int IntKind.i64 y.active] = D.agg [D.int IntKind.i64 t.id, D.str t.addr, D.int IntKind.i64 t.prio, D.str t.zone, D.int IntKind.i64 t.w, D.sl t.f (List.map pairD t.mt), D.bool t.up, D.int IntKind.i64 t.run, D.int IntKind.i64 t.forced, D.int IntKind.i64 t.wait, D.int IntKind.i64 t.errors, D.int IntKind.i64 t.bok, D.int IntKind.i64 t.ball, D.bool t.out, D.int IntKind.i64 t.frm, D.int IntKind.i64 t.till, D.int IntKind.i64 t.times, D.bool t.drains, D.int IntKind.i64 t.gone, D.int IntKind.i64 t.since, D.int IntKind.i64 t.active]) ∧ ((!y.drains && (decide (y.forced = (2 : Int)) || decide (y.forced = (0 : Int)) && y.up) && !y.out) = true → (∃ (t : Stat), t.small ∧ D.agg [D.int IntKind.i64 y.id, D.str y.addr, D.int IntKind.i64 y.prio, D.str y.zone, D.int IntKind.i64 y.w, D.sl y.f (List.map pairD y.mt), D.bool y.up, D.int IntKind.i64 y.run, D.int IntKind.i64 y.forced, D.int IntKind.i64 y.wait, D.int IntKind.i64 y.errors, D.int IntKind.i64 y.bok, D.int IntKind.i64 y.ball, D.bool y.out, D.int IntKind.i64 y.frm, D.int IntKind.i64 y.till, D.int IntKind.i64 y.times, D.bool y.drains, D.int IntKind.i64 y.gone, D.int IntKind.i64 y.since, D.int IntKind.i64 y.active] = D.agg [D.int IntKind.i64 t.id, D.str t.addr, D.int IntKind.i64 t.prio, D.str t.zone, D.int IntKind.i64 t.w, D.sl t.f (List.map pairD t.mt), D.bool t.up, D.int IntKind.i64 t.run, D.int IntKind.i64 t.forced, D.int IntKind.i64 t.wait, D.int IntKind.i64 t.errors, D.int IntKind.i64 t.bok, D.int IntKind.i64 t.ball, D.bool t.out, D.int IntKind.i64 t.frm, D.int IntKind.i64 t.till, D.int IntKind.i64 t.times, D.bool t.drains, D.int IntKind.i64 t.gone, D.int IntKind.i64 t.since, D.int IntKind.i64 t.active]) ∧ inK IntKind.i64 ((↑a.length : Int) + (1 : Int)) ∧ ((∃ (s' : List Stat × List Stat × List Stat), (s'.fst ++ s'.snd.fst = all ∧ gafr s'.fst = s'.snd.snd ∧ all.length ≤ (1000 : Nat) ∧ ∀ (t : Stat), List.Mem t s'.snd.fst → t.small) ∧ s'.snd.fst.length.succ ≤ (t :: r).length ∧ gafr all = gafr all ∧ (outD (0 : Nat) (List.map statD s'.snd.snd) = D.any ∧ D.sl f (List.map statD all) = D.sl f (List.map statD all) ∧ D.int IntKind.i64 (↑(List.map statD all).length : Int) = D.int IntKind.i64 (↑(List.map statD all).length : Int) ∧ D.int IntKind.i64 (↑s'.fst.length : Int) = D.int IntKind.i64 ((↑a.length : Int) + (1 : Int))) ∧ (outO (21 : Nat) (List.map statD s'.snd.snd) = none ∨ outO (21 : Nat) (List.map statD s'.snd.snd) = none ∧ False)) ∨ ∃ (s' : List Stat × List Stat × List Stat), (s'.fst ++ s'.snd.fst = all ∧ gafr s'.fst = s'.snd.snd ∧ all.length ≤ (1000 : Nat) ∧ ∀ (t : Stat), List.Mem t s'.snd.fst → t.small) ∧ s'.snd.fst.length.succ ≤ (t :: r).length ∧ gafr all = gafr all ∧ (outD (0 : Nat) (List.map statD s'.snd.snd) = D.ms (0 : Nat) (0 : Nat) (1 : Nat) (1 : Nat) false ∧ D.sl f (List.map statD all) = D.sl f (List.map statD all) ∧ D.int IntKind.i64 (↑(List.map statD all).length : Int) = D.int IntKind.i64 (↑(List.map statD all).length : Int) ∧ D.int IntKind.i64 (↑s'.fst.length : Int) = D.int IntKind.i64 ((↑a.length : Int) + (1 : Int))) ∧ (outO (21 : Nat) (List.map statD s'.snd.snd) = none ∨ outO (21 : Nat) (List.map statD s'.snd.snd) = some (Ob.row St.own (21 : Nat) [D.agg [D.int IntKind.i64 y.id, D.str y.addr, D.int IntKind.i64 y.prio, D.str y.zone, D.int IntKind.i64 y.w, D.sl (List.map pairD y.mt).isEmpty (List.map pairD y.mt), D.bool y.up, D.int IntKind.i64 y.run, D.int IntKind.i64 y.forced, D.int IntKind.i64 y.wait, D.int IntKind.i64 y.errors, D.int IntKind.i64 y.bok, D.int IntKind.i64 y.ball, D.bool y.out, D.int IntKind.i64 y.frm, D.int IntKind.i64 y.till, D.int IntKind.i64 y.times, D.bool y.drains, D.int IntKind.i64 y.gone, D.int IntKind.i64 y.since, D.int IntKind.i64 y.active]]) ∧ true = true))) ∧ ((!y.drains && (decide (y.forced = (2 : Int)) || decide (y.forced = (0 : Int)) && y.up) && !y.out) = false → inK IntKind.i64 ((↑a.length : Int) + (1 : Int)) ∧ ((∃ (s' : List Stat × List Stat × List Stat), (s'.fst ++ s'.snd.fst = all ∧ gafr s'.fst = s'.snd.snd ∧ all.length ≤ (1000 : Nat) ∧ ∀ (t : Stat), List.Mem t s'.snd.fst → t.small) ∧ s'.snd.fst.length.succ ≤ (t :: r).length ∧ gafr all = gafr all ∧ (outD (0 : Nat) (List.map statD s'.snd.snd) = D.sl true [] ∧ D.sl f (List.map statD all) = D.sl f (List.map statD all) ∧ D.int IntKind.i64 (↑(List.map statD all).length : Int) = D.int IntKind.i64 (↑(List.map statD all).length : Int) ∧ D.int IntKind.i64 (↑s'.fst.length : Int) = D.int IntKind.i64 ((↑a.length : Int) + (1 : Int))) ∧ (outO (21 : Nat) (List.map statD s'.snd.snd) = none ∨ outO (21 : Nat) (List.map statD s'.snd.snd) = none ∧ False)) ∨ ∃ (s' : List Stat × List Stat × List Stat), (s'.fst ++ s'.snd.fst = all ∧ gafr s'.fst = s'.snd.snd ∧ all.length ≤ (1000 : Nat) ∧ ∀ (t : Stat), List.Mem t s'.snd.fst → t.small) ∧ s'.snd.fst.length.succ ≤ (t :: r).length ∧ gafr all = gafr all ∧ (outD (0 : Nat) (List.map statD s'.snd.snd) = D.sl true [] ∧ D.sl f (List.map statD all) = D.sl f (List.map statD all) ∧ D.int IntKind.i64 (↑(List.map statD all).length : Int) = D.int IntKind.i64 (↑(List.map statD all).length : Int) ∧ D.int IntKind.i64 (↑s'.fst.length : Int) = D.int IntKind.i64 ((↑a.length : Int) + (1 : Int))) ∧ (outO (21 : Nat) (List.map statD s'.snd.snd) = none ∨ outO (21 : Nat) (List.map statD s'.snd.snd) = none ∧ False)))) (by kernel_rfl) ?_
      refine ⟨decide_eq_true hll, t, by omega, hg, ⟨t, rfl⟩, fun hb => ⟨⟨t, ht, rfl⟩, hin, .inr ⟨(a ++ [t], r, [t.cp]), ⟨hall, by rw [gafr_yes hb, h2]; rfl, h3, h4'⟩, Nat.le_refl _, rfl, ?_, .inr ⟨?_, by first | rfl | trivial⟩⟩⟩, fun hb => ⟨hin, .inl ⟨(a ++ [t], r, []), ⟨hall, by rw [gafr_no hb, h2], h3, h4'⟩, Nat.le_refl _, rfl, ?_, .inl rfl⟩⟩⟩
      all_goals repeat' apply And.intro
      all_goals first
        | rfl
        | exact hix
        | (rw [hie]; rfl)
    | cons y ys =>
      refine round0 (C := nCfg 0 glfr [] [(9, .t)]) (ctrs_ok (glfr) rfl rfl) (by kernel_rfl) (by kernel_rfl) (q := decide ((↑a.length : Int) < (↑(List.map statD all).length : Int)) = true ∧ ∃ (y_1 : Stat), (0 : Int) ≤ (↑a.length : Int) ∧ (List.map statD all)[(↑a.length : Int).toNat]? = some (D.agg [D.int IntKind.i64 y_1.id, D.str y_1.addr, D.int IntKind.i64 y_1.prio, D.str y_1.zone, D.int IntKind.i64 y_1.w, D.sl y_1.f (List.map pairD y_1.mt), D.bool y_1.up, D.int IntKind.i64 y_1.run, D.int IntKind.i64 y_1.forced, D.int IntKind.i64 y_1.wait, D.int IntKind.i64 y_1.errors, D.int IntKind.i64 y_1.bok, D.int IntKind.i64 y_1.ball, D.bool y_1.out, D.int IntKind.i64 y_1.frm, D.int IntKind.i64 y_1.till, D.int IntKind.i64 y_1.times, D.bool y_1.drains, D.int IntKind.i64 y_1.gone, D.int IntKind.i64 y_1.since, D.int IntKind.i64 y_1.active]) ∧ (∃ (t : Stat), D.agg [D.int IntKind.i64 y_1.id, D.str y_1.addr, D.int IntKind.i64 y_1.prio, D.str y_1.zone, D.int IntKind.i64 y_1.w, D.sl y_1.f (List.map pairD y_1.mt), D.bool y_1.up, D.int IntKind.i64 y_1.run, D.int IntKind.i64 y_1.forced, D.int IntKind.i64 y_1.wait, D.int IntKind.i64 y_1.errors, D.int IntKind.i64 y_1.bok, D.int IntKind.i64 y_1.ball, D.bool y_1.out, D.int IntKind.i64 y_1.frm, D.int IntKind.i64 y_1.till, D.int IntKind.i64 y_1.times, D.bool y_1.drains, D.int IntKind.i64 y_1.gone, D.int IntKind.i64 y_1.since, D.int IntKind.i64 y_1.active] = D.agg [D.int IntKind.i64 t.id, D.str t.addr, D.int IntKind.i64 t.prio, D.str t.zone, D.int IntKind.i64 t.w, D.sl t.f (List.map pairD t.mt), D.bool t.up, D.int IntKind.i64 t.run, D.int IntKind.i64 t.forced, D.int IntKind.i64 t.wait, D.int IntKind.i64 t.errors, D.int IntKind.i64 t.bok, D.int IntKind.i64 t.ball, D.bool t.out, D.int IntKind.i64 t.frm, D.int IntKind.i64 t.till, D.int IntKind.i64 t.times, D.bool t.drains, D.int IntKind.i64 t.gone, D.int IntKind.i64 t.since, D.int IntKind.i64 t.active]) ∧ ((!y_1.drains && (decide (y_1.forced = (2 : Int)) || decide (y_1.forced = (0 : Int)) && y_1.up) && !y_1.out) = true → (∃ (t : Stat), t.small ∧ D.agg [D.int IntKind.i64 y_1.id, D.str y_1.addr, D.int IntKind.i64 y_1.prio, D.str y_1.zone, D.int IntKind.i64 y_1.w, D.sl y_1.f (List.map pairD y_1.mt), D.bool y_1.up, D.int IntKind.i64 y_1.run, D.int IntKind.i64 y_1.forced, D.int IntKind.i64 y_1.wait, D.int IntKind.i64 y_1.errors, D.int IntKind.i64 y_1.bok, D.int IntKind.i64 y_1.ball, D.bool y_1.out, D.int IntKind.i64 y_1.frm, D.int IntKind.i64 y_1.till, D.int IntKind.i64 y_1.times, D.bool y_1.drains, D.int IntKind.i64 y_1.gone, D.int IntKind.i64 y_1.since, D.int IntKind.i64 y_1.active] = D.agg [D.int IntKind.i64 t.id, D.str t.addr, D.int IntKind.i64 t.prio, D.str t.zone, D.int IntKind.i64 t.w, D.sl t.f (List.map pairD t.mt), D.bool t.up, D.int IntKind.i64 t.run, D.int IntKind.i64 t.forced, D.int IntKind.i64 t.wait, D.int IntKind.i64 t.errors, D.int IntKind.i64 t.bok, D.int IntKind.i64 t.ball, D.bool t.out, D.int IntKind.i64 t.frm, D.int IntKind.i64 t.till, D.int IntKind.i64 t.times, D.bool t.drains, D.int IntKind.i64 t.gone, D.int IntKind.i64 t.since, D.int IntKind.i64 t.active]) ∧ (0 : Nat) + (List.map statD (y :: ys)).length ≤ (List.map statD (y :: ys)).length ∧ (List.map statD (y :: ys)).length ≤ (List.map statD (y :: ys)).length ∧ ((List.map statD (y :: ys)).length + (1 : Nat)) * (200 : Nat) ≤ (140737488355328 : Nat) ∧ (List.map statD (y :: ys)).length.succ ≤ (List.map statD (y :: ys)).length + (1 : Nat) ∧ (0 : Nat) = (0 : Nat) ∧ inK IntKind.i64 ((↑a.length : Int) + (1 : Int)) ∧ ((∃ (s' : List Stat × List Stat × List Stat), (s'.fst ++ s'.snd.fst = all ∧ gafr s'.fst = s'.snd.snd ∧ all.length ≤ (1000 : Nat) ∧ ∀ (t : Stat), List.Mem t s'.snd.fst → t.small) ∧ s'.snd.fst.length.succ ≤ (t :: r).length ∧ gafr all = gafr all ∧ (outD (0 : Nat) (List.map statD s'.snd.snd) = D.any ∧ D.sl f (List.map statD all) = D.sl f (List.map statD all) ∧ D.int IntKind.i64 (↑(List.map statD all).length : Int) = D.int IntKind.i64 (↑(List.map statD all).length : Int) ∧ D.int IntKind.i64 (↑s'.fst.length : Int) = D.int IntKind.i64 ((↑a.length : Int) + (1 : Int))) ∧ (outO (21 : Nat) (List.map statD s'.snd.snd) = none ∨ outO (21 : Nat) (List.map statD s'.snd.snd) = none ∧ False)) ∨ ∃ (s' : List Stat × List Stat × List Stat), (s'.fst ++ s'.snd.fst = all ∧ gafr s'.fst = s'.snd.snd ∧ all.length ≤ (1000 : Nat) ∧ ∀ (t : Stat), List.Mem t s'.snd.fst → t.small) ∧ s'.snd.fst.length.succ ≤ (t :: r).length ∧ gafr all = gafr all ∧ (outD (0 : Nat) (List.map statD s'.snd.snd) = D.ms (0 : Nat) (0 : Nat) ((List.map statD (y :: ys)).length + (1 : Nat)) ((List.map statD (y :: ys)).length + (1 : Nat)) false ∧ D.sl f (List.map statD all) = D.sl f (List.map statD all) ∧ D.int IntKind.i64 (↑(List.map statD all).length : Int) = D.int IntKind.i64 (↑(List.map statD all).length : Int) ∧ D.int IntKind.i64 (↑s'.fst.length : Int) = D.int IntKind.i64 ((↑a.length : Int) + (1 : Int))) ∧ (outO (21 : Nat) (List.map statD s'.snd.snd) = none ∨ outO (21 : Nat) (List.map statD s'.snd.snd) = some (Ob.row St.own (21 : Nat) (List.take (List.map statD (y :: ys)).length (List.map statD (y :: ys)) ++ [D.agg [D.int IntKind.i64 y_1.id, D.str y_1.addr, D.int IntKind.i64 y_1.prio, D.str y_1.zone, D.int IntKind.i64 y_1.w, D.sl (List.map pairD y_1.mt).isEmpty (List.map pairD y_1.mt), D.bool y_1.up, D.int IntKind.i64 y_1.run, D.int IntKind.i64 y_1.forced, D.int IntKind.i64 y_1.wait, D.int IntKind.i64 y_1.errors, D.int IntKind.i64 y_1.bok, D.int IntKind.i64 y_1.ball, D.bool y_1.out, D.int IntKind.i64 y_1.frm, D.int IntKind.i64 y_1.till, D.int IntKind.i64 y_1.times, D.bool y_1.drains, D.int IntKind.i64 y_1.gone, D.int IntKind.i64 y_1.since, D.int IntKind.i64 y_1.active]])) ∧ (List.take (List.map statD (y :: ys)).length (List.map statD (y :: ys)) ++ [D.agg [D.int IntKind.i64 y_1.id, D.str y_1.addr, D.int IntKind.i64 y_1.prio, D.str y_1.zone, D.int IntKind.i64 y_1.w, D.sl (List.map pairD y_1.mt).isEmpty (List.map pairD y_1.mt), D.bool y_1.up, D.int IntKind.i64 y_1.run, D.int IntKind.i64 y_1.forced, D.int IntKind.i64 y_1.wait, D.int IntKind.i64 y_1.errors, D.int IntKind.i64 y_1.bok, D.int IntKind.i64 y_1.ball, D.bool y_1.out, D.int IntKind.i64 y_1.frm, D.int IntKind.i64 y_1.till, D.int IntKind.i64 y_1.times, D.bool y_1.drains, D.int IntKind.i64 y_1.gone, D.int IntKind.i64 y_1.since, D.int IntKind.i64 y_1.active]]).all D.pure = true))) ∧ ((!y_1.drains && (decide (y_1.forced = (2 : Int)) || decide (y_1.forced = (0 : Int)) && y_1.up) && !y_1.out) = false → inK IntKind.i64 ((↑a.length : Int) + (1 : Int)) ∧ ((∃ (s' : List Stat × List Stat × List Stat), (s'.fst ++ s'.snd.fst = all ∧ gafr s'.fst = s'.snd.snd ∧ all.length ≤ (1000 : Nat) ∧ ∀ (t : Stat), List.Mem t s'.snd.fst → t.small) ∧ s'.snd.fst.length.succ ≤ (t :: r).length ∧ gafr all = gafr all ∧ (outD (0 : Nat) (List.map statD s'.snd.snd) = D.ms (0 : Nat) (0 : Nat) (List.map statD (y :: ys)).length (List.map statD (y :: ys)).length false ∧ D.sl f (List.map statD all) = D.sl f (List.map statD all) ∧ D.int IntKind.i64 (↑(List.map statD all).length : Int) = D.int IntKind.i64 (↑(List.map statD all).length : Int) ∧ D.int IntKind.i64 (↑s'.fst.length : Int) = D.int IntKind.i64 ((↑a.length : Int) + (1 : Int))) ∧ (outO (21 : Nat) (List.map statD s'.snd.snd) = none ∨ outO (21 : Nat) (List.map statD s'.snd.snd) = some (Ob.row St.own (21 : Nat) (List.map statD (y :: ys))) ∧ (List.map statD (y :: ys)).all D.pure = true)) ∨ ∃ (s' : List Stat × List Stat × List Stat), (s'.fst ++ s'.snd.fst = all ∧ gafr s'.fst = s'.snd.snd ∧ all.length ≤ (1000 : Nat) ∧ ∀ (t : Stat), List.Mem t s'.snd.fst → t.small) ∧ s'.snd.fst.length.succ ≤ (t :: r).length ∧ gafr all = gafr all ∧ (outD (0 : Nat) (List.map statD s'.snd.snd) = D.any ∧ D.sl f (List.map statD all) = D.sl f (List.map statD all) ∧ D.int IntKind.i64 (↑(List.map statD all).length : Int) = D.int IntKind.i64 (↑(List.map statD all).length : Int) ∧ D.int IntKind.i64 (↑s'.fst.length : Int) = D.int IntKind.i64 ((↑a.length : Int) + (1 : Int))) ∧ (outO (21 : Nat) (List.map statD s'.snd.snd) = none ∨ outO (21 : Nat) (List.map statD s'.snd.snd) = none ∧ False)))) (by kernel_rfl) ?_
      have hyl : (List.map statD (y :: ys)).length ≤ 1000 := by rw [List.length_map, ← h2]; have := gafr_len a; omega
      have he : List.map statD (y :: ys ++ [t.cp]) = List.map statD (y :: ys) ++ [statD t.cp] := List.map_append
      have ho1 : outD 0 (List.map statD (y :: ys ++ [t.cp])) = .ms 0 0 ((List.map statD (y :: ys)).length + 1) ((List.map statD (y :: ys)).length + 1) false := by
        rw [he, outD_snoc]
      have ho2 : outO 21 (List.map statD (y :: ys ++ [t.cp])) = some (.row .own 21 (List.take (List.map statD (y :: ys)).length (List.map statD (y :: ys)) ++ [statD t.cp])) := by
        rw [he, outO_snoc, List.take_length]
      have hq : (List.take (List.map statD (y :: ys)).length (List.map statD (y :: ys)) ++ [statD t.cp]).all D.pure = true := by
        rw [List.take_length, List.all_append, pure_statD]; rfl
      refine ⟨decide_eq_true hll, t, by omega, hg, ⟨t, rfl⟩, fun hb => ⟨⟨t, ht, rfl⟩, by omega, Nat.le_refl _, by omega, Nat.le_refl _, rfl, hin, .inr ⟨(a ++ [t], r, y :: ys ++ [t.cp]), ⟨hall, by rw [gafr_yes hb, h2], h3, h4'⟩, Nat.le_refl _, rfl, ?_, .inr ⟨?_, ?_⟩⟩⟩, fun hb => ⟨hin, .inl ⟨(a ++ [t], r, y :: ys), ⟨hall, by rw [gafr_no hb, h2], h3, h4'⟩, Nat.le_refl _, rfl, ?_, .inr ⟨rfl, pure_statD _⟩⟩⟩⟩
      all_goals repeat' apply And.intro
      all_goals first
        | rfl
        | exact hix
        | exact ho1
        | (rw [hie]; exact ho2)
        | (rw [hie]; exact hq)
noncomputable def gCfr (f : Bool) (l : List Stat) : WCfg := { nCfg 0 glfr [] [] with loops := fun k => match k with | 3 => some ((gLfr f l).row [(0, true)]) | _ => none }
theorem gTfr (f : Bool) (l : List Stat) (h1 : l.length ≤ 1000) (h2 : ∀ t ∈ l, t.small) : ∃ (b : List Stat × List Stat × List Stat), (b.fst ++ b.snd.fst = l ∧ gafr b.fst = b.snd.snd ∧ l.length ≤ (1000 : Nat) ∧ ∀ (t : Stat), List.Mem t b.snd.fst → t.small) ∧ ((outD (0 : Nat) (List.map statD b.snd.snd) = D.sl true [] ∧ D.sl f (List.map statD l) = D.sl f (List.map statD l) ∧ D.int IntKind.i64 (↑(List.map statD l).length : Int) = D.int IntKind.i64 (↑(List.map statD l).length : Int) ∧ D.int IntKind.i64 (↑b.fst.length : Int) = D.int IntKind.i64 (0 : Int)) ∧ (outO (21 : Nat) (List.map statD b.snd.snd) = none ∨ outO (21 : Nat) (List.map statD b.snd.snd) = none ∧ False)) ∧ (∀ (a : Unit), gafr l = [] → D.sl true [] = D.sl (gafr l).isEmpty (List.map statD (gafr l))) ∧ ∀ (a : Stat × List Stat), gafr l = a.fst :: a.snd → (0 : Nat) + (List.map statD (a.fst :: a.snd)).length ≤ (List.map statD (a.fst :: a.snd)).length ∧ (List.take (List.map statD (a.fst :: a.snd)).length (List.drop (0 : Nat) (List.map statD (a.fst :: a.snd)))).all D.pure = true ∧ D.sl false (List.take (List.map statD (a.fst :: a.snd)).length (List.drop (0 : Nat) (List.map statD (a.fst :: a.snd)))) = D.sl (gafr l).isEmpty (List.map statD (gafr l)) := by
  refine ⟨([], l, []), ⟨rfl, rfl, h1, h2⟩, ⟨?_, .inl rfl⟩, fun _ h => by rw [h]; rfl, fun a h => ?_⟩
  · repeat' apply And.intro
    all_goals rfl
  · rw [h, List.drop_zero, List.take_length]
    exact ⟨by omega, pure_statD _, rfl⟩
def gSfr (vs : List D) : Option DOut := match vs with | [.sl f xs] => some ⟨∃ l : List Stat, xs = l.map statD ∧ l.length ≤ 1000 ∧ ∀ t ∈ l, t.small, .sl (gafr (xs.map dStat)).isEmpty ((gafr (xs.map dStat)).map statD)⟩ | _ => none
def gafrC : Ctr := ⟨34, gSfr, by
  intro vs o ho hp
  unfold gSfr at ho
  split at ho
  · rename_i f xs
    injection ho with ho; subst ho
    obtain ⟨l, rfl, h1, h2⟩ := hp
    simp only [map_dStat]
    refine dataFunL (C := gCfr f l) (ctrs_ok glfr rfl rfl) rfl Try.func34 (by kernel_rfl) (l := [lp Try.f34 3]) (by kernel_rfl) ?_ (by kernel_rfl) (by kernel_rfl) (by kernel_rfl) (gTfr f l h1 h2)
    intro x hx
    rw [List.mem_singleton.1 hx]
    exact (gLfr f l).fits 3 [(0, true)] (by kernel_rfl) rfl (gRfr f l)
  · cases ho⟩

/-! ### triage/triageref10.Group -/
def pgp (q : Int) (t : Stat) : Bool := decide (t.prio = q)
def gagp (q : Int) (l : List Stat) : List Stat := (l.filter (pgp q)).map Stat.cp
theorem gagp_yes (q : Int) {a : List Stat} {t : Stat} (h : pgp q t = true) : gagp q (a ++ [t]) = gagp q a ++ [t.cp] := by unfold gagp; simp [List.filter_append, List.filter_cons, h]
theorem gagp_no (q : Int) {a : List Stat} {t : Stat} (h : pgp q t = false) : gagp q (a ++ [t]) = gagp q a := by unfold gagp; simp [List.filter_append, List.filter_cons, h]
theorem gagp_len (q : Int) (a : List Stat) : (gagp q a).length ≤ a.length := by unfold gagp; rw [List.length_map]; exact List.length_filter_le ..
theorem gagp_small (q : Int) {l : List Stat} (h : ∀ t ∈ l, t.small) : ∀ t ∈ gagp q l, t.small := by
  intro t ht
  unfold gagp at ht
  obtain ⟨u, hu, rfl⟩ := List.mem_map.1 ht
  exact h u (List.mem_filter.1 hu).1
noncomputable def glgp : List Ctr := [cpOneC]
def gLgp (f : Bool) (q : Int) (all : List Stat) : WLoop :=
  { St := List Stat × List Stat × List Stat
    O := List Stat
    T := fun s => [(1, .int .i64 q), (5, outD 0 (s.2.2.map statD)), (8, .sl f (all.map statD)), (9, .int .i64 (all.map statD).length), (10, .int .i64 s.1.length)]
    S := fun s => [outO 21 (s.2.2.map statD)]
    ok := fun s => s.1 ++ s.2.1 = all ∧ gagp q s.1 = s.2.2 ∧ all.length ≤ 1000 ∧ ∀ t ∈ s.2.1, t.small
    μ := fun s => s.2.1.length
    m := fun _ => gagp q all
    src := [(0, true)]
    alts := [[(3, true)]]
    outs := [{ α := Unit, is := fun o _ => o = [], ex := .exit 0, T := fun _ => [(5, .sl true [])] },
      { α := Stat × List Stat, is := fun o a => o = a.1 :: a.2, ex := .exit 0, src := [(0, true)], T := fun a => [(5, outD 0 ((a.1 :: a.2).map statD))], S := fun a => [outO 21 ((a.1 :: a.2).map statD)] }] }
theorem gRgp (f : Bool) (q : Int) (all : List Stat) (s : (gLgp f q all).St) (hs : (gLgp f q all).ok s) : Tri Try.prog 0 26 (lp Try.f32 3) (tb ((gLgp f q all).T s)) ((gLgp f q all).S s) ((gLgp f q all).q 0 s) := by
  obtain ⟨a, r, u⟩ := s
  obtain ⟨h1, h2, h3, h4⟩ := hs
  simp only at h1 h2 h4
  cases r with
  | nil =>
    rw [List.append_nil] at h1
    subst h1
    cases u with
    | nil =>
      refine round0 (C := nCfg 0 glgp [] [(11, .f)]) (ctrs_ok (glgp) rfl rfl) (by kernel_rfl) (by kernel_rfl) (q := decide ((↑a.length : Int) < (↑(List.map statD a).length : Int)) = false ∧ ((∃ (a_1 : Unit), gagp q a = [] ∧ D.sl true [] = D.sl true []) ∨ ∃ (a_1 : Stat × List Stat), gagp q a = a_1.fst :: a_1.snd ∧ D.ms (0 : Nat) (0 : Nat) (List.map statD (a_1.fst :: a_1.snd)).length (List.map statD (a_1.fst :: a_1.snd)).length false = D.sl true [] ∧ (some (Ob.row St.own (21 : Nat) (List.map statD (a_1.fst :: a_1.snd))) = none ∨ some (Ob.row St.own (21 : Nat) (List.map statD (a_1.fst :: a_1.snd))) = none ∧ False))) (by kernel_rfl) ?_
      exact ⟨by simp, .inl ⟨(), h2, rfl⟩⟩
    | cons y ys =>
      refine round0 (C := nCfg 0 glgp [] [(11, .f)]) (ctrs_ok (glgp) rfl rfl) (by kernel_rfl) (by kernel_rfl) (q := decide ((↑a.length : Int) < (↑(List.map statD a).length : Int)) = false ∧ ((∃ (a_1 : Unit), gagp q a = [] ∧ D.sl true [] = D.any) ∨ ∃ (a_1 : Stat × List Stat), gagp q a = a_1.fst :: a_1.snd ∧ D.ms (0 : Nat) (0 : Nat) (List.map statD (a_1.fst :: a_1.snd)).length (List.map statD (a_1.fst :: a_1.snd)).length false = D.ms (0 : Nat) (0 : Nat) (List.map statD (y :: ys)).length (List.map statD (y :: ys)).length false ∧ (some (Ob.row St.own (21 : Nat) (List.map statD (a_1.fst :: a_1.snd))) = none ∨ some (Ob.row St.own (21 : Nat) (List.map statD (a_1.fst :: a_1.snd))) = some (Ob.row St.own (21 : Nat) (List.map statD (y :: ys))) ∧ (List.map statD (y :: ys)).all D.pure = true))) (by kernel_rfl) ?_
      exact ⟨by simp, .inr ⟨(y, ys), h2, rfl, .inr ⟨rfl, pure_statD _⟩⟩⟩
  | cons t r =>
    have hl : a.length + (r.length + 1) ≤ 1000 := by rw [← h1] at h3; simpa using h3
    have ht := h4 t (List.mem_cons_self ..)
    have h4' : ∀ x ∈ r, x.small := fun x hx => h4 x (List.mem_cons_of_mem _ hx)
    have hall : (a ++ [t]) ++ r = all := by rw [← h1]; simp
    have hg : (List.map statD all)[((a.length : Int)).toNat]? = some (statD t) := by rw [← h1]; exact get_midI statD a t r
    have hll : ((a.length : Int) < ((List.map statD all).length : Int)) := by rw [← h1]; simp; omega
    have hix : D.int .i64 ((a ++ [t]).length : Int) = D.int .i64 ((a.length : Int) + 1) := by simp
    have hin : inK .i64 ((a.length : Int) + 1) := by simp only [inK]; omega
    have hie : (List.map pairD t.mt).isEmpty = t.mt.isEmpty := List.isEmpty_map
    cases u with
    | nil =>
      refine round0 (C := nCfg 0 glgp [] [(11, .t)]) (ctrs_ok (glgp) rfl rfl) (by kernel_rfl) (by kernel_rfl) (q := decide ((↑a.length : Int) < (↑(List.map statD all).length : Int)) = true ∧ ∃ (y : Stat), (0 : Int) ≤ (↑a.length : Int) ∧ (List.map statD all)[(↑a.length : Int).toNat]? = some (D.agg [D.int IntKind.i64 y.id, D.str y.addr, D.int IntKind.i64 y.prio, D.str y.zone, D.int IntKind.i64 y.w, D.sl y.f (List.map pairD y.mt), D.bool y.up, D.int IntKind.i64 y.run, D.int IntKind.i64 y.forced, D.int IntKind.i64 y.wait, D.int IntKind.i64 y.errors, D.int IntKind.i64 y.bok, D.int IntKind.i64 y.ball, D.bool y.out, D.int IntKind.i64 y.frm, D.int IntKind.i64 y.till, D.int IntKind.i64 y.times, D.bool y.drains, D.int IntKind.i64 y.gone, D.int IntKind.i64 y.since, D.int IntKind.i64 y.active]) ∧ (decide (y.prio = q) = true → (∃ (t : Stat), t.small ∧ D.agg [D.int IntKind.i64 y.id, D.str y.addr, D.int IntKind.i64 y.prio, D.str y.zone, D.int IntKind.i64 y.w, D.sl y.f (List.map pairD y.mt), D.bool y.up, D.int IntKind.i64 y.run, D.int IntKind.i64 y.forced, D.int IntKind.i64 y.wait, D.int IntKind.i64 y.errors, D.int IntKind.i64 y.bok, D.int IntKind.i64 y.ball, D.bool y.out, D.int IntKind.i64 y.frm, D.int IntKind.i64 y.till, D.int IntKind.i64 y.times, D.bool y.drains, D.int IntKind.i64 y.gone, D.int IntKind.i64 y.since, D.int IntKind.i64 y.active] = D.agg [D.int IntKind.i64 t.id, D.str t.addr, D.int IntKind.i64 t.prio, D.str t.zone, D.int IntKind.i64 t.w, D.sl t.f (List.map pairD t.mt), D.bool t.up, D.int IntKind.i64 t.run, D.int IntKind.i64 t.forced, D.int IntKind.i64 t.wait, D.int IntKind.i64 t.errors, D.int IntKind.i64 t.bok, D.int IntKind.i64 t.ball, D.bool t.out, D.int IntKind.i64 t.frm, D.int IntKind.i64 t.till, D.int IntKind.i64 t.times, D.bool t.drains, D.int IntKind.i64 t.gone, D.int IntKind.i64 t.since, D.int IntKind.i64 t.active]) ∧ inK IntKind.i64 ((↑a.length : Int) + (1 : Int)) ∧ ((∃ (s' : List Stat × List Stat × List Stat), (s'.fst ++ s'.snd.fst = all ∧ gagp q s'.fst = s'.snd.snd ∧ all.length ≤ (1000 : Nat) ∧ ∀ (t : Stat), List.Mem t s'.snd.fst → t.small) ∧ s'.snd.fst.length.succ ≤ (t :: r).length ∧ gagp q all = gagp q all ∧ (D.int IntKind.i64 q = D.int IntKind.i64 q ∧ outD (0 : Nat) (List.map statD s'.snd.snd) = D.any ∧ D.sl f (List.map statD all) = D.sl f (List.map statD all) ∧ D.int IntKind.i64 (↑(List.map statD all).length : Int) = D.int IntKind.i64 (↑(List.map statD all).length : Int) ∧ D.int IntKind.i64 (↑s'.fst.length : Int) = D.int IntKind.i64 ((↑a.length : Int) + (1 : Int))) ∧ (outO (21 : Nat) (List.map statD s'.snd.snd) = none ∨ outO (21 : Nat) (List.map statD s'.snd.snd) = none ∧ False)) ∨ ∃ (s' : List Stat × List Stat × List Stat), (s'.fst ++ s'.snd.fst = all ∧ gagp q s'.fst = s'.snd.snd ∧ all.length ≤ (1000 : Nat) ∧ ∀ (t : Stat), List.Mem t s'.snd.fst → t.small) ∧ s'.snd.fst.length.succ ≤ (t :: r).length ∧ gagp q all = gagp q all ∧ (D.int IntKind.i64 q = D.int IntKind.i64 q ∧ outD (0 : Nat) (List.map statD s'.snd.snd) = D.ms (0 : Nat) (0 : Nat) (1 : Nat) (1 : Nat) false ∧ D.sl f (List.map statD all) = D.sl f (List.map statD all) ∧ D.int IntKind.i64 (↑(List.map statD all).length : Int) = D.int IntKind.i64 (↑(List.map statD all).length : Int) ∧ D.int IntKind.i64 (↑s'.fst.length : Int) = D.int IntKind.i64 ((↑a.length : Int) + (1 : Int))) ∧ (outO (21 : Nat) (List.map statD s'.snd.snd) = none ∨ outO (21 : Nat) (List.map statD s'.snd.snd) = some (Ob.row St.own (21 : Nat) [D.agg [D.int IntKind.i64 y.id, D.str y.addr, D.int IntKind.i64 y.prio, D.str y.zone, D.int IntKind.i64 y.w, D.sl (List.map pairD y.mt).isEmpty (List.map pairD y.mt), D.bool y.up, D.int IntKind.i64 y.run, D.int IntKind.i64 y.forced, D.int IntKind.i64 y.wait, D.int IntKind.i64 y.errors, D.int IntKind.i64 y.bok, D.int IntKind.i64 y.ball, D.bool y.out, D.int IntKind.i64 y.frm, D.int IntKind.i64 y.till, D.int IntKind.i64 y.times, D.bool y.drains, D.int IntKind.i64 y.gone, D.int IntKind.i64 y.since, D.int IntKind.i64 y.active]]) ∧ true = true))) ∧ (decide (y.prio = q) = false → inK IntKind.i64 ((↑a.length : Int) + (1 : Int)) ∧ ((∃ (s' : List Stat × List Stat × List Stat), (s'.fst ++ s'.snd.fst = all ∧ gagp q s'.fst = s'.snd.snd ∧ all.length ≤ (1000 : Nat) ∧ ∀ (t : Stat), List.Mem t s'.snd.fst → t.small) ∧ s'.snd.fst.length.succ ≤ (t :: r).length ∧ gagp q all = gagp q all ∧ (D.int IntKind.i64 q = D.int IntKind.i64 q ∧ outD (0 : Nat) (List.map statD s'.snd.snd) = D.sl true [] ∧ D.sl f (List.map statD all) = D.sl f (List.map statD all) ∧ D.int IntKind.i64 (↑(List.map statD all).length : Int) = D.int IntKind.i64 (↑(List.map statD all).length : Int) ∧ D.int IntKind.i64 (↑s'.fst.length : Int) = D.int IntKind.i64 ((↑a.length : Int) + (1 : Int))) ∧ (outO (21 : Nat) (List.map statD s'.snd.snd) = none ∨ outO (21 : Nat) (List.map statD s'.snd.snd) = none ∧ False)) ∨ ∃ (s' : List Stat × List Stat × List Stat), (s'.fst ++ s'.snd.fst = all ∧ gagp q s'.fst = s'.snd.snd ∧ all.length ≤ (1000 : Nat) ∧ ∀ (t : Stat), List.Mem t s'.snd.fst → t.small) ∧ s'.snd.fst.length.succ ≤ (t :: r).length ∧ gagp q all = gagp q all ∧ (D.int IntKind.i64 q = D.int IntKind.i64 q ∧ outD (0 : Nat) (List.map statD s'.snd.snd) = D.sl true [] ∧ D.sl f (List.map statD all) = D.sl f (List.map statD all) ∧ D.int IntKind.i64 (↑(List.map statD all).length : Int) = D.int IntKind.i64 (↑(List.map statD all).length : Int) ∧ D.int IntKind.i64 (↑s'.fst.length : Int) = D.int IntKind.i64 ((↑a.length : Int) + (1 : Int))) ∧ (outO (21 : Nat) (List.map statD s'.snd.snd) = none ∨ outO (21 : Nat) (List.map statD s'.snd.snd) = none ∧ False)))) (by kernel_rfl) ?_
      refine ⟨decide_eq_true hll, t, by omega, hg, fun hb => ⟨⟨t, ht, rfl⟩, hin, .inr ⟨(a ++ [t], r, [t.cp]), ⟨hall, by rw [gagp_yes q hb, h2]; rfl, h3, h4'⟩, Nat.le_refl _, rfl, ?_, .inr ⟨?_, by first | rfl | trivial⟩⟩⟩, fun hb => ⟨hin, .inl ⟨(a ++ [t], r, []), ⟨hall, by rw [gagp_no q hb, h2], h3, h4'⟩, Nat.le_refl _, rfl, ?_, .inl rfl⟩⟩⟩
      all_goals repeat' apply And.intro
      all_goals first
        | rfl
        | exact hix
        | (rw [hie]; rfl)
    | cons y ys =>
      refine round0 (C := nCfg 0 glgp [] [(11, .t)]) (ctrs_ok (glgp) rfl rfl) (by kernel_rfl) (by kernel_rfl) (q := decide ((↑a.length : Int) < (↑(List.map statD all).length : Int)) = true ∧ ∃ (y_1 : Stat), (0 : Int) ≤ (↑a.length : Int) ∧ (List.map statD all)[(↑a.length : Int).toNat]? = some (D.agg [D.int IntKind.i64 y_1.id, D.str y_1.addr, D.int IntKind.i64 y_1.prio, D.str y_1.zone, D.int IntKind.i64 y_1.w, D.sl y_1.f (List.map pairD y_1.mt), D.bool y_1.up, D.int IntKind.i64 y_1.run, D.int IntKind.i64 y_1.forced, D.int IntKind.i64 y_1.wait, D.int IntKind.i64 y_1.errors, D.int IntKind.i64 y_1.bok, D.int IntKind.i64 y_1.ball, D.bool y_1.out, D.int IntKind.i64 y_1.frm, D.int IntKind.i64 y_1.till, D.int IntKind.i64 y_1.times, D.bool y_1.drains, D.int IntKind.i64 y_1.gone, D.int IntKind.i64 y_1.since, D.int IntKind.i64 y_1.active]) ∧ (decide (y_1.prio = q) = true → (∃ (t : Stat), t.small ∧ D.agg [D.int IntKind.i64 y_1.id, D.str y_1.addr, D.int IntKind.i64 y_1.prio, D.str y_1.zone, D.int IntKind.i64 y_1.w, D.sl y_1.f (List.map pairD y_1.mt), D.bool y_1.up, D.int IntKind.i64 y_1.run, D.int IntKind.i64 y_1.forced, D.int IntKind.i64 y_1.wait, D.int IntKind.i64 y_1.errors, D.int IntKind.i64 y_1.bok, D.int IntKind.i64 y_1.ball, D.bool y_1.out, D.int IntKind.i64 y_1.frm, D.int IntKind.i64 y_1.till, D.int IntKind.i64 y_1.times, D.bool y_1.drains, D.int IntKind.i64 y_1.gone, D.int IntKind.i64 y_1.since, D.int IntKind.i64 y_1.active] = D.agg [D.int IntKind.i64 t.id, D.str t.addr, D.int IntKind.i64 t.prio, D.str t.zone, D.int IntKind.i64 t.w, D.sl t.f (List.map pairD t.mt), D.bool t.up, D.int IntKind.i64 t.run, D.int IntKind.i64 t.forced, D.int IntKind.i64 t.wait, D.int IntKind.i64 t.errors, D.int IntKind.i64 t.bok, D.int IntKind.i64 t.ball, D.bool t.out, D.int IntKind.i64 t.frm, D.int IntKind.i64 t.till, D.int IntKind.i64 t.times, D.bool t.drains, D.int IntKind.i64 t.gone, D.int IntKind.i64 t.since, D.int IntKind.i64 t.active]) ∧ (0 : Nat) + (List.map statD (y :: ys)).length ≤ (List.map statD (y :: ys)).length ∧ (List.map statD (y :: ys)).length ≤ (List.map statD (y :: ys)).length ∧ ((List.map statD (y :: ys)).length + (1 : Nat)) * (200 : Nat) ≤ (140737488355328 : Nat) ∧ (List.map statD (y :: ys)).length.succ ≤ (List.map statD (y :: ys)).length + (1 : Nat) ∧ (0 : Nat) = (0 : Nat) ∧ inK IntKind.i64 ((↑a.length : Int) + (1 : Int)) ∧ ((∃ (s' : List Stat × List Stat × List Stat), (s'.fst ++ s'.snd.fst = all ∧ gagp q s'.fst = s'.snd.snd ∧ all.length ≤ (1000 : Nat) ∧ ∀ (t : Stat), List.Mem t s'.snd.fst → t.small) ∧ s'.snd.fst.length.succ ≤ (t :: r).length ∧ gagp q all = gagp q all ∧ (D.int IntKind.i64 q = D.int IntKind.i64 q ∧ outD (0 : Nat) (List.map statD s'.snd.snd) = D.any ∧ D.sl f (List.map statD all) = D.sl f (List.map statD all) ∧ D.int IntKind.i64 (↑(List.map statD all).length : Int) = D.int IntKind.i64 (↑(List.map statD all).length : Int) ∧ D.int IntKind.i64 (↑s'.fst.length : Int) = D.int IntKind.i64 ((↑a.length : Int) + (1 : Int))) ∧ (outO (21 : Nat) (List.map statD s'.snd.snd) = none ∨ outO (21 : Nat) (List.map statD s'.snd.snd) = none ∧ False)) ∨ ∃ (s' : List Stat × List Stat × List Stat), (s'.fst ++ s'.snd.fst = all ∧ gagp q s'.fst = s'.snd.snd ∧ all.length ≤ (1000 : Nat) ∧ ∀ (t : Stat), List.Mem t s'.snd.fst → t.small) ∧ s'.snd.fst.length.succ ≤ (t :: r).length ∧ gagp q all = gagp q all ∧ (D.int IntKind.i64 q = D.int IntKind.i64 q ∧ outD (0 : Nat) (List.map statD s'.snd.snd) = D.ms (0 : Nat) (0 : Nat) ((List.map statD (y :: ys)).length + (1 : Nat)) ((List.map statD (y :: ys)).length + (1 : Nat)) false ∧ D.sl f (List.map statD all) = D.sl f (List.map statD all) ∧ D.int IntKind.i64 (↑(List.map statD all).length : Int) = D.int IntKind.i64 (↑(List.map statD all).length : Int) ∧ D.int IntKind.i64 (↑s'.fst.length : Int) = D.int IntKind.i64 ((↑a.length : Int) + (1 : Int))) ∧ (outO (21 : Nat) (List.map statD s'.snd.snd) = none ∨ outO (21 : Nat) (List.map statD s'.snd.snd) = some (Ob.row St.own (21 : Nat) (List.take (List.map statD (y :: ys)).length (List.map statD (y :: ys)) ++ [D.agg [D.int IntKind.i64 y_1.id, D.str y_1.addr, D.int IntKind.i64 y_1.prio, D.str y_1.zone, D.int IntKind.i64 y_1.w, D.sl (List.map pairD y_1.mt).isEmpty (List.map pairD y_1.mt), D.bool y_1.up, D.int IntKind.i64 y_1.run, D.int IntKind.i64 y_1.forced, D.int IntKind.i64 y_1.wait, D.int IntKind.i64 y_1.errors, D.int IntKind.i64 y_1.bok, D.int IntKind.i64 y_1.ball, D.bool y_1.out, D.int IntKind.i64 y_1.frm, D.int IntKind.i64 y_1.till, D.int IntKind.i64 y_1.times, D.bool y_1.drains, D.int IntKind.i64 y_1.gone, D.int IntKind.i64 y_1.since, D.int IntKind.i64 y_1.active]])) ∧ (List.take (List.map statD (y :: ys)).length (List.map statD (y :: ys)) ++ [D.agg [D.int IntKind.i64 y_1.id, D.str y_1.addr, D.int IntKind.i64 y_1.prio, D.str y_1.zone, D.int IntKind.i64 y_1.w, D.sl (List.map pairD y_1.mt).isEmpty (List.map pairD y_1.mt), D.bool y_1.up, D.int IntKind.i64 y_1.run, D.int IntKind.i64 y_1.forced, D.int IntKind.i64 y_1.wait, D.int IntKind.i64 y_1.errors, D.int IntKind.i64 y_1.bok, D.int IntKind.i64 y_1.ball, D.bool y_1.out, D.int IntKind.i64 y_1.frm, D.int IntKind.i64 y_1.till, D.int IntKind.i64 y_1.times, D.bool y_1.drains, D.int IntKind.i64 y_1.gone, D.int IntKind.i64 y_1.since, D.int IntKind.i64 y_1.active]]).all D.pure = true))) ∧ (decide (y_1.prio = q) = false → inK IntKind.i64 ((↑a.length : Int) + (1 : Int)) ∧ ((∃ (s' : List Stat × List Stat × List Stat), (s'.fst ++ s'.snd.fst = all ∧ gagp q s'.fst = s'.snd.snd ∧ all.length ≤ (1000 : Nat) ∧ ∀ (t : Stat), List.Mem t s'.snd.fst → t.small) ∧ s'.snd.fst.length.succ ≤ (t :: r).length ∧ gagp q all = gagp q all ∧ (D.int IntKind.i64 q = D.int IntKind.i64 q ∧ outD (0 : Nat) (List.map statD s'.snd.snd) = D.ms (0 : Nat) (0 : Nat) (List.map statD (y :: ys)).length (List.map statD (y :: ys)).length false ∧ D.sl f (List.map statD all) = D.sl f (List.map statD all) ∧ D.int IntKind.i64 (↑(List.map statD all).length : Int) = D.int IntKind.i64 (↑(List.map statD all).length : Int) ∧ D.int IntKind.i64 (↑s'.fst.length : Int) = D.int IntKind.i64 ((↑a.length : Int) + (1 : Int))) ∧ (outO (21 : Nat) (List.map statD s'.snd.snd) = none ∨ outO (21 : Nat) (List.map statD s'.snd.snd) = some (Ob.row St.own (21 : Nat) (List.map statD (y :: ys))) ∧ (List.map statD (y :: ys)).all D.pure = true)) ∨ ∃ (s' : List Stat × List Stat × List Stat), (s'.fst ++ s'.snd.fst = all ∧ gagp q s'.fst = s'.snd.snd ∧ all.length ≤ (1000 : Nat) ∧ ∀ (t : Stat), List.Mem t s'.snd.fst → t.small) ∧ s'.snd.fst.length.succ ≤ (t :: r).length ∧ gagp q all = gagp q all ∧ (D.int IntKind.i64 q = D.int IntKind.i64 q ∧ outD (0 : Nat) (List.map statD s'.snd.snd) = D.any ∧ D.sl f (List.map statD all) = D.sl f (List.map statD all) ∧ D.int IntKind.i64 (↑(List.map statD all).length : Int) = D.int IntKind.i64 (↑(List.map statD all).length : Int) ∧ D.int IntKind.i64 (↑s'.fst.length : Int) = D.int IntKind.i64 ((↑a.length : Int) + (1 : Int))) ∧ (outO (21 : Nat) (List.map statD s'.snd.snd) = none ∨ outO (21 : Nat) (List.map statD s'.snd.snd) = none ∧ False)))) (by kernel_rfl) ?_
      have hyl : (List.map statD (y :: ys)).length ≤ 1000 := by rw [List.length_map, ← h2]; have := gagp_len q a; omega
      have he : List.map statD (y :: ys ++ [t.cp]) = List.map statD (y :: ys) ++ [statD t.cp] := List.map_append
      have ho1 : outD 0 (List.map statD (y :: ys ++ [t.cp])) = .ms 0 0 ((List.map statD (y :: ys)).length + 1) ((List.map statD (y :: ys)).length + 1) false := by
        rw [he, outD_snoc]
      have ho2 : outO 21 (List.map statD (y :: ys ++ [t.cp])) = some (.row .own 21 (List.take (List.map statD (y :: ys)).length (List.map statD (y :: ys)) ++ [statD t.cp])) := by
        rw [he, outO_snoc, List.take_length]
      have hq : (List.take (List.map statD (y :: ys)).length (List.map statD (y :: ys)) ++ [statD t.cp]).all D.pure = true := by
        rw [List.take_length, List.all_append, pure_statD]; rfl
      refine ⟨decide_eq_true hll, t, by omega, hg, fun hb => ⟨⟨t, ht, rfl⟩, by omega, Nat.le_refl _, by omega, Nat.le_refl _, rfl, hin, .inr ⟨(a ++ [t], r, y :: ys ++ [t.cp]), ⟨hall, by rw [gagp_yes q hb, h2], h3, h4'⟩, Nat.le_refl _, rfl, ?_, .inr ⟨?_, ?_⟩⟩⟩, fun hb => ⟨hin, .inl ⟨(a ++ [t], r, y :: ys), ⟨hall, by rw [gagp_no q hb, h2], h3, h4'⟩, Nat.le_refl _, rfl, ?_, .inr ⟨rfl, pure_statD _⟩⟩⟩⟩
      all_goals repeat' apply And.intro
      all_goals first
        | rfl
        | exact hix
        | exact ho1
        | (rw [hie]; exact ho2)
        | (rw [hie]; exact hq)
noncomputable def gCgp (f : Bool) (q : Int) (l : List Stat) : WCfg := { nCfg 0 glgp [] [] with loops := fun k => match k with | 3 => some ((gLgp f q l).row [(0, true)]) | _ => none }
theorem gTgp (f : Bool) (q : Int) (l : List Stat) (h1 : l.length ≤ 1000) (h2 : ∀ t ∈ l, t.small) : ∃ (b : List Stat × List Stat × List Stat), (b.fst ++ b.snd.fst = l ∧ gagp q b.fst = b.snd.snd ∧ l.length ≤ (1000 : Nat) ∧ ∀ (t : Stat), List.Mem t b.snd.fst → t.small) ∧ ((D.int IntKind.i64 q = D.int IntKind.i64 q ∧ outD (0 : Nat) (List.map statD b.snd.snd) = D.sl true [] ∧ D.sl f (List.map statD l) = D.sl f (List.map statD l) ∧ D.int IntKind.i64 (↑(List.map statD l).length : Int) = D.int IntKind.i64 (↑(List.map statD l).length : Int) ∧ D.int IntKind.i64 (↑b.fst.length : Int) = D.int IntKind.i64 (0 : Int)) ∧ (outO (21 : Nat) (List.map statD b.snd.snd) = none ∨ outO (21 : Nat) (List.map statD b.snd.snd) = none ∧ False)) ∧ (∀ (a : Unit), gagp q l = [] → D.sl true [] = D.sl (gagp q l).isEmpty (List.map statD (gagp q l))) ∧ ∀ (a : Stat × List Stat), gagp q l = a.fst :: a.snd → (0 : Nat) + (List.map statD (a.fst :: a.snd)).length ≤ (List.map statD (a.fst :: a.snd)).length ∧ (List.take (List.map statD (a.fst :: a.snd)).length (List.drop (0 : Nat) (List.map statD (a.fst :: a.snd)))).all D.pure = true ∧ D.sl false (List.take (List.map statD (a.fst :: a.snd)).length (List.drop (0 : Nat) (List.map statD (a.fst :: a.snd)))) = D.sl (gagp q l).isEmpty (List.map statD (gagp q l)) := by
  refine ⟨([], l, []), ⟨rfl, rfl, h1, h2⟩, ⟨?_, .inl rfl⟩, fun _ h => by rw [h]; rfl, fun a h => ?_⟩
  · repeat' apply And.intro
    all_goals rfl
  · rw [h, List.drop_zero, List.take_length]
    exact ⟨by omega, pure_statD _, rfl⟩
def gSgp (vs : List D) : Option DOut := match vs with | [.sl f xs, (.int .i64 q)] => some ⟨∃ l : List Stat, xs = l.map statD ∧ l.length ≤ 1000 ∧ ∀ t ∈ l, t.small, .sl (gagp q (xs.map dStat)).isEmpty ((gagp q (xs.map dStat)).map statD)⟩ | _ => none
def gagpC : Ctr := ⟨32, gSgp, by
  intro vs o ho hp
  unfold gSgp at ho
  split at ho
  · rename_i f xs q
    injection ho with ho; subst ho
    obtain ⟨l, rfl, h1, h2⟩ := hp
    simp only [map_dStat]
    refine dataFunL (C := gCgp f q l) (ctrs_ok glgp rfl rfl) rfl Try.func32 (by kernel_rfl) (l := [lp Try.f32 3]) (by kernel_rfl) ?_ (by kernel_rfl) (by kernel_rfl) (by kernel_rfl) (gTgp f q l h1 h2)
    intro x hx
    rw [List.mem_singleton.1 hx]
    exact (gLgp f q l).fits 3 [(0, true)] (by kernel_rfl) rfl (gRgp f q l)
  · cases ho⟩
end Go.Proofs.Ytgibpomhiilehaa.Dv
