/- A function whose first regions leave few states: the rest is computed whole from each. -/
import Derived.Test.YthnaloeipilmdaaWi
set_option linter.unusedVariables false
set_option linter.unusedSimpArgs false
namespace Go.Proofs.Ythnaloeipilmdaa.Dv
open Go Go.Proofs
section
variable {P : Program} {Γ Γ' Γ1 : Ctx} {w w' : World} {σ σ' σ1 : Store}
/-- The first k pieces of a row of pieces, and what they leave. -/
def wpH (P : Program) (C : WCfg) : Nat → Code → Env → Lits → Store → (Env → Store → Prop) → Prop
  | 0, _, e, _, σ, K => K e σ
  | k + 1, .seq a b, e, L, σ, K => wpC P C a e L σ fun ex e L σ => match ex with
    | .normal => wpH P C k b e L σ K
    | _ => False
  | _ + 1, _, _, _, _, _ => False
def tailN : Nat → Code → Code
  | k + 1, .seq _ b => tailN k b
  | _, c => c
def headOk (C : WCfg) (N : Nat) : Nat → Code → Bool
  | k + 1, .seq a b => goodCode C.M N a && (loops1 C.unr a).isEmpty && headOk C N k b
  | _, _ => true
theorem Tri.seq {n0 N : Nat} {a b : Code} {e : Env} {σ : Store} {Q : PostE} (h : Tri P n0 N a e σ fun ex e σ => match ex with
    | .normal => Tri P n0 N b e σ Q
    | ex => Q ex e σ) : Tri P n0 N (.seq a b) e σ Q := by
  intro Γ0 σ0 w0 Γ w ac K h1 h2 h3 h4 h5 h6 h7
  refine wp_seq ?_
  refine h Γ0 σ0 w0 Γ w ac _ h1 h2 h3 h4 h5 h6 ?_
  intro ex e1 σ1 a1 w1 hq hc
  cases ex with
  | normal =>
    obtain ⟨Γ1, k1, k2, k3, k4, k5⟩ := hc
    refine hq Γ0 σ0 w0 Γ1 w1 a1 _ h1 h2 k3 k1 k2 k4 ?_
    intro ex e' σ' a' w' hQ hc'
    rw [k5] at hc'
    exact h7 ex e' σ' a' w' hQ hc'
  | exit id => exact h7 _ _ _ _ _ hq hc
  | ret => exact h7 _ _ _ _ _ hq hc
theorem wpH_ok {C : WCfg} (hC : SpecsOk P C) (hmix : P.follows .mixedOrders = true) {N : Nat} {Q : PostE} {K : Env → Store → Prop} : ∀ {k : Nat} {c : Code} {e : Env} {L : Lits} {σ : Store}, headOk C N k c = true → wpH P C k c e L σ K → (∀ e σ, K e σ → Tri P C.n0 N (tailN k c) e σ Q) → Tri P C.n0 N c e σ Q := by
  intro k
  induction k with
  | zero =>
    intro c e L σ _ h ht
    have : tailN 0 c = c := by cases c <;> rfl
    rw [this] at ht
    exact ht _ _ h
  | succ k ih =>
    intro c e L σ hg h ht
    cases c with
    | seq a b =>
      simp only [headOk, Bool.and_eq_true, List.isEmpty_iff] at hg
      refine Tri.seq ?_
      refine (wpC_ok hC hmix hg.1.1 (noLoops hg.1.2) h).mono ?_
      rintro ex e σ ⟨L', hq⟩
      cases ex with
      | normal => exact ih hg.2 hq ht
      | exit id => exact hq.elim
      | ret => exact hq.elim
    | _ => exact h.elim
/-- A piece of code that is computed whole. -/
theorem tri_run {M : Modes} (hgood : GoodM P M) (hprim : PrimOk P M) (hmix : P.follows .mixedOrders = true) {N : Nat} {c : Code} {e e' : Env} {σ σ' : Store} (n : Nat) {ex : Ex} (hg : goodCode M N c = true)
    (h : evCode P (callD M (runN P M n).1) (runN P M n).2 c e σ = some (ex, e', σ')) : Tri P 0 N c e σ fun ex1 e1 σ1 => ex1 = ex ∧ e1 = e' ∧ σ1 = σ' := by
  intro Γ0 σ0 w0 Γ w a K h1 h2 h3 h4 h5 h6 h7
  obtain ⟨i1, i2⟩ := sound hgood hprim hmix n
  refine code_sim (callD_ok i1 hprim) i2 hmix c hg h h4 h5 h6 ?_
  intro a' w' hc
  exact h7 ex e' σ' a' w' ⟨rfl, rfl, rfl⟩ (hc.step h3)
/-- What a function's end must be. -/
def endOk (P : Program) (fn : Func) (r : D) : PostE := fun ex e σ => match ex with
  | .exit _ => False
  | _ => ∃ d, resultsD P fn.results.toList e σ = some d ∧ frz 0 σ d = some r
theorem dataFun_tri (hmix : P.follows .mixedOrders = true) {f : FuncId} {fn : Func} {c : Code} (hf : P.funcs[f]? = some fn) (hc : fn.body = some c) (hname : (fn.name != "runtime.NumGoroutine") = true) (hnt : fn.params.size + fn.nfree ≤ fn.ntmps) {args : List D} (hn : args.length = fn.params.size + fn.nfree)
    {r : D} (hr : frz 0 [] r = some r) (h : Tri P 0 fn.ntmps c (entry args) [] (endOk P fn r)) : DataFun P f args r := by
  refine ⟨hr, fun Γ0 w vargs hs hargs => ?_⟩
  refine .inl ⟨⟨fn, hf, by simpa using hname, by rw [hc]; rfl⟩, ?_⟩
  refine calls_of_wp hf hc ?_
  have hlen : args.length = vargs.size := by simpa using hargs.length
  refine h Γ0 [] w Γ0 w _ _ rfl (fun id hid => hs.below id hid) (.refl _ _ _) (entry_slots hargs _) hs (by simp; omega) ?_
  intro ex e' σ' a' w' hq hce
  obtain ⟨Γ', k1, k2, k3, k4, k5⟩ := hce
  have key : (∃ d, resultsD P fn.results.toList e' σ' = some d ∧ frz 0 σ' d = some r) → ∃ v, (results fn a'.tmps).run P w' = .ok v w' ∧ ∃ v' C', Ending.returned v = Ending.returned v' ∧ DataR C' w' r v' ∧ Behind Γ0.C w C' w' := by
    rintro ⟨d, h1, h3⟩
    obtain ⟨v, hv, hrel⟩ := results_ok k2 k1 h1
    refine ⟨v, hv, v, fun b => Γ'.C b ∨ (w.heap.size ≤ b ∧ b < w'.heap.size), rfl, ?_, ?_⟩
    · have htr := k3.tr
      refine frz_ok (Γ' := { Γ' with C := fun b => Γ'.C b ∨ (w.heap.size ≤ b ∧ b < w'.heap.size) }) k2 ⟨fun b hb => .inl hb, fun _ h => h, fun _ _ => rfl, fun _ _ => rfl, fun _ _ => rfl⟩ hrel h3 ?_
      intro id st e xs hst ho
      obtain ⟨⟨_, _, c, _, _, _, hh, _⟩, _, hcst⟩ := k2.row _ _ _ _ ho
      have hlt := (Array.getElem?_eq_some_iff.1 hh).1
      cases st with
      | own =>
        rcases htr.own _ ⟨id, e, xs, ho, rfl⟩ with h | h
        · obtain ⟨id', _, _, ho', _⟩ := h; simp [Store.obj] at ho'
        · exact .inr ⟨h, hlt⟩
      | cst => exact .inl (hcst rfl)
      | shut => exact absurd rfl hst
    · have htr := k3.tr
      have hno : ∀ b, ¬ Own Γ0 [] b := by rintro b ⟨id', _, _, ho', _⟩; simp [Store.obj] at ho'
      refine ⟨fun b hb => ?_, fun b hb => .inl (htr.agree.C b hb), fun b hb => htr.kept b hb (hno b), htr.os, htr.tape, htr.output, htr.size⟩
      rcases hb with hb | hb
      · refine ⟨?_, k2.old b hb⟩
        rcases htr.cnew b hb with h | h | h
        · exact .inl h
        · exact .inr h
        · exact absurd h (hno _)
      · exact ⟨.inr hb.1, hb.2⟩
  cases ex with
  | exit id => exact hq.elim
  | normal => obtain ⟨v, hv, v', C', e1, h5, h6⟩ := key hq; injection e1 with e1; subst e1; exact ⟨k5, v, hv, v, C', rfl, h5, h6⟩
  | ret => obtain ⟨v, hv, v', C', e1, h5, h6⟩ := key hq; injection e1 with e1; subst e1; exact ⟨k5, v, hv, v, C', rfl, h5, h6⟩
/-- The rest of a function, computed whole, and what it hands out. -/
noncomputable def restRun (P : Program) (M : Modes) (n : Nat) (fn : Func) (k : Nat) (T : List (Nat × D)) (S : Store) : Option D :=
  match evCode P (callD M (runN P M n).1) (runN P M n).2 (tailN k (bodyOf fn)) (tb T) S with
  | some (.exit _, _, _) => none
  | some (_, e, σ) => (resultsD P fn.results.toList e σ).bind fun d => frz 0 σ d
  | none => none
theorem rest_tri {M : Modes} (hgood : GoodM P M) (hprim : PrimOk P M) (hmix : P.follows .mixedOrders = true) {fn : Func} {k n : Nat} {T : List (Nat × D)} {S : Store} {r : D} (hg : goodCode M fn.ntmps (tailN k (bodyOf fn)) = true) (h : restRun P M n fn k T S = some r) :
    Tri P 0 fn.ntmps (tailN k (bodyOf fn)) (tb T) S (endOk P fn r) := by
  unfold restRun at h
  split at h
  · cases h
  · rename_i ex e σ hne hev
    obtain ⟨d, h1, h2⟩ := Option.bind_eq_some_iff.1 h
    refine (tri_run hgood hprim hmix n hg hev).mono ?_
    rintro ex1 e1 σ1 ⟨rfl, rfl, rfl⟩
    cases ex1 with
    | exit id => exact (hne id rfl).elim
    | normal => exact ⟨d, h1, h2⟩
    | ret => exact ⟨d, h1, h2⟩
  · cases h
end
/-- A function of which the first k pieces leave one of few states, named by a. -/
theorem dataFunH {C : WCfg} (hC : SpecsOk Try.prog C) (h0 : C.n0 = 0) {M : Modes} (hgood : GoodM Try.prog M) (hprim : PrimOk Try.prog M) {f : FuncId} {fn : Func} (hf : Try.prog.funcs[f]? = some fn) (k n : Nat)
    (hname : (fn.name != "runtime.NumGoroutine") = true) (hb : fn.body.isSome = true) (hnt : decide (fn.params.size + fn.nfree ≤ fn.ntmps) = true) (hh : headOk C fn.ntmps k (bodyOf fn) = true) (hg : goodCode M fn.ntmps (tailN k (bodyOf fn)) = true)
    {args : List D} (hn : args.length = fn.params.size + fn.nfree) {r : D} (hr : frz 0 [] r = some r) {α : Type} (ok : α → Prop) (src : List (Nat × Bool)) (T : α → List (Nat × D)) (S : α → Store)
    (hrun : ∀ a, ok a → restRun Try.prog M n fn k (T a) (S a) = some r)
    {q : Prop} (h : wpH Try.prog C k (bodyOf fn) (entry args) (fun _ => .no) [] (fun e σ => ∃ a, ok a ∧ Wk 0 src e σ (T a) (S a)) = q) (hq : q) : DataFun Try.prog f args r := by
  cases hc : fn.body with
  | none => rw [hc] at hb; cases hb
  | some c =>
    have hbo : bodyOf fn = c := by unfold bodyOf; rw [hc]
    refine dataFun_tri mix hf hc hname (of_decide_eq_true hnt) hn hr ?_
    rw [hbo] at hh hg h
    have h := of_nf h hq
    have htri := wpH_ok hC mix hh h (Q := endOk Try.prog fn r) ?_
    · rw [h0] at htri; exact htri
    rw [h0]
    rintro e σ ⟨a, ha, hw⟩
    have hr1 := rest_tri hgood hprim mix (by rw [hbo]; exact hg) (hrun a ha)
    rw [hbo] at hr1
    exact Tri.weak hw hr1
end Go.Proofs.Ythnaloeipilmdaa.Dv
