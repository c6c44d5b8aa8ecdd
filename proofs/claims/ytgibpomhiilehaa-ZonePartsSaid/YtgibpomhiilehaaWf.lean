/- What is computed from a function's code holds of its calls. -/
import Derived.Test.YtgibpomhiilehaaWs
import Derived.Test.YtgibpomhiilehaaDvTop
set_option linter.unusedVariables false
set_option linter.unusedSimpArgs false
namespace Go.Proofs.Ytgibpomhiilehaa.Dv
open Go
section
variable {P : Program} {C : WCfg}
theorem wantsW_ok {ops : Array Oper} {e : Env} {L : Lits} {o : Oper} {K : Bool → Env → Lits → Prop} (h : wantsW C ops e L o K) : ∃ b L', wants ops e o = some b ∧ K b e L' := by
  unfold wantsW at h
  unfold wants
  split at h
  · rename_i hg; exact ⟨true, L, by rw [hg], h⟩
  · rename_i g want hg
    rw [hg]
    simp only
    split at h
    · rename_i d hd
      rw [hd]
      simp only
      split at h
      · rename_i b hb
        obtain ⟨L', h1⟩ := askW_ok hb h
        rw [hb]
        simp only
        refine ⟨b == want, L', rfl, ?_⟩
        cases hbw : (b == want) with
        | true => rw [hbw] at h1; exact h1
        | false => rw [hbw] at h1; exact h1
      · rename_i hb; exact ⟨false, L, by rw [hb], h⟩
      · exact h.elim
    · exact h.elim
theorem wpL_ok (hC : SpecsOk P C) {ops : Array Oper} : ∀ {l : List Oper} {aid : Nat} {e : Env} {L : Lits} {σ : Store} {Q : Env → Lits → Store → List Foot → Prop}, wpL P C ops l aid e L σ Q →
    ∃ e1 L1 σ1 fs, evL P (CS C) ops l aid e σ = some (e1, σ1) ∧ feetL P (CS C) ops l aid e σ = some fs ∧ Q e1 L1 σ1 fs
  | [], aid, e, L, σ, Q, h => ⟨e, L, σ, [], rfl, rfl, h⟩
  | o :: l, aid, e, L, σ, Q, h => by
    unfold wpL at h
    obtain ⟨b, L', hw, h⟩ := wantsW_ok h
    unfold evL feetL
    rw [hw]
    cases b with
    | true =>
      simp only at h ⊢
      obtain ⟨v, i, σ', f, L2, h1, h2⟩ := wpOp_ok hC h
      obtain ⟨e1, L1, σ1, fs, h3, h4, h5⟩ := wpL_ok hC h2
      rw [h1]
      simp only
      exact ⟨e1, L1, σ1, f :: fs, h3, by rw [h4]; rfl, h5⟩
    | false =>
      simp only at h ⊢
      obtain ⟨e1, L1, σ1, fs, h3, h4, h5⟩ := wpL_ok hC h
      exact ⟨e1, L1, σ1, .none :: fs, h3, by rw [h4]; rfl, h5⟩
/-- What is known of the loops of a piece of code. -/
def LoopFits (P : Program) (C : WCfg) (N : Nat) (c : Code) : Prop :=
  ∀ row, C.loops (keyOf c) = some row → ∀ b, row.pre b → Tri P C.n0 N (.loop c) (tb (row.T b)) (row.S b) fun ex e σ => ∃ o ∈ row.outs, ∃ a, o.post b a ∧ ex = o.ex ∧ ∃ src, Wk C.n0 src e σ (o.T b a) (o.S b a)
def LoopsIn (u : Nat → Nat) (T : Code → Prop) : Code → Prop
  | .seq a b => LoopsIn u T a ∧ LoopsIn u T b
  | .cond _ a b => LoopsIn u T a ∧ LoopsIn u T b
  | .block _ c => LoopsIn u T c
  | .scope c => LoopsIn u T c
  | .loop c => (u (keyOf c) = 0 → T c) ∧ (u (keyOf c) ≠ 0 → LoopsIn u T c)
  | _ => True
theorem outsW_ok {β : Type} {b : β} {Q : KC} : ∀ {os : List (LOut β)}, outsW b Q os → ∀ o ∈ os, ∀ a, o.post b a → Q o.ex (tb (o.T b a)) (fun _ => .no) (o.S b a)
  | [], h, o, ho => by cases ho
  | [o'], h, o, ho => by
    rcases List.mem_singleton.1 ho with rfl
    exact h
  | o' :: o2 :: os, h, o, ho => by
    rcases List.mem_cons.1 ho with rfl | ho
    · exact h.1
    · exact outsW_ok h.2 o ho
def KcE (Q : KC) : PostE := fun ex e σ => ∃ L, Q ex e L σ
theorem wpC_ok (hC : SpecsOk P C) (hmix : P.follows .mixedOrders = true) {N : Nat} : ∀ {c : Code} {e : Env} {L : Lits} {σ : Store} {Q : KC}, goodCode C.M N c = true → LoopsIn C.unr (LoopFits P C N) c → wpC P C c e L σ Q → Tri P C.n0 N c e σ (KcE Q) := by
  intro c
  have same : ∀ {Γ0 : Ctx} {σ0 : Store} {w0 : World} {Γ : Ctx} {w : World} {e : Env} {σ : Store} {a : Act}, Reach Γ0 σ0 w0 Γ σ w → Slots Γ w e a → SR Γ σ w → a.tmps.size = N → CodeEnd N Γ0 σ0 w0 e σ a.defers a w := fun h0 h1 h2 h3 => ⟨_, h1, h2, h0, h3, rfl⟩
  induction c with
  | skip => intro e L σ Q hg hl h Γ0 σ0 w0 Γ w a K h1 h2 h3 h4 h5 h6 h7; exact wp_skip (h7 .normal e σ _ _ ⟨L, h⟩ (same h3 h4 h5 h6))
  | label l => intro e L σ Q hg hl h Γ0 σ0 w0 Γ w a K h1 h2 h3 h4 h5 h6 h7; exact wp_label (h7 .normal e σ _ _ ⟨L, h⟩ (same h3 h4 h5 h6))
  | ret => intro e L σ Q hg hl h Γ0 σ0 w0 Γ w a K h1 h2 h3 h4 h5 h6 h7; exact wp_ret (h7 .ret e σ _ _ ⟨L, h⟩ (same h3 h4 h5 h6))
  | exit id => intro e L σ Q hg hl h Γ0 σ0 w0 Γ w a K h1 h2 h3 h4 h5 h6 h7; exact wp_exit (h7 (.exit id) e σ _ _ ⟨L, h⟩ (same h3 h4 h5 h6))
  | region id ops draw =>
    intro e L σ Q hg hl h Γ0 σ0 w0 Γ w a K h1 h2 h3 h4 h5 h6 h7
    unfold wpC at h
    obtain ⟨e1, L1, σ1, fs, k1, k2, k3⟩ := wpL_ok hC h
    obtain ⟨k4, k5⟩ := onB_ok k3
    have hev : evCode P (callD C.M (runS C)) (fun _ _ _ => none) (.region id ops draw) e σ = some (.normal, e1, σ1) := by
      unfold evCode
      have hd : drawOk P (CS C) ops draw e σ = true := by
        unfold drawOk
        by_cases hb : (draw && !(badPairs ops).isEmpty) = true
        · rw [if_pos hb, k2]
          simp only
          rw [Bool.or_eq_true, Bool.or_eq_true] at k4
          rcases k4 with (k4 | k4) | k4
          · simp_all
          · simp_all
          · exact k4
        · rw [if_neg hb]
      rw [if_pos hd, k1]; rfl
    refine region_sim (callS_ok hC) hmix hg hev h4 h5 h6 ?_
    intro a' w' hc
    exact h7 .normal e1 σ1 a' w' ⟨L1, k5⟩ (hc.step h3)
  | seq x y ihx ihy =>
    intro e L σ Q hg hl h Γ0 σ0 w0 Γ w a K h1 h2 h3 h4 h5 h6 h7
    simp only [goodCode, Bool.and_eq_true] at hg
    unfold wpC at h
    refine wp_seq ?_
    refine ihx hg.1 hl.1 h Γ0 σ0 w0 Γ w a _ h1 h2 h3 h4 h5 h6 ?_
    rintro ex e1 σ1 a1 w1 ⟨L1, hq⟩ hc
    cases ex with
    | normal =>
      obtain ⟨Γ1, k1, k2, k3, k4, k5⟩ := hc
      refine ihy hg.2 hl.2 hq Γ0 σ0 w0 Γ1 w1 a1 _ h1 h2 k3 k1 k2 k4 ?_
      intro ex e' σ' a' w' hQ hc'
      rw [k5] at hc'
      exact h7 ex e' σ' a' w' hQ hc'
    | exit id => exact h7 _ _ _ _ _ ⟨L1, hq⟩ hc
    | ret => exact h7 _ _ _ _ _ ⟨L1, hq⟩ hc
  | cond c x y ihx ihy =>
    intro e L σ Q hg hl h Γ0 σ0 w0 Γ w a K h1 h2 h3 h4 h5 h6 h7
    simp only [goodCode, Bool.and_eq_true] at hg
    have hc := h4.opnd c
    unfold wpC at h
    split at h
    · rename_i d
      split at h
      · rename_i t ho
        obtain ⟨L', hk⟩ := askW_ok ho h
        simp only [opnd, ho] at hc
        cases t with
        | true => exact wp_cond_true (R1.bool.1 hc) (ihx hg.1 hl.1 hk Γ0 σ0 w0 Γ w a K h1 h2 h3 h4 h5 h6 h7)
        | false => exact wp_cond_false (R1.bool.1 hc) (ihy hg.2 hl.2 hk Γ0 σ0 w0 Γ w a K h1 h2 h3 h4 h5 h6 h7)
      · exact h.elim
    · split at h
      · rename_i ho
        rw [ho] at hc
        exact wp_cond_true (R1.bool.1 hc) (ihx hg.1 hl.1 h Γ0 σ0 w0 Γ w a K h1 h2 h3 h4 h5 h6 h7)
      · rename_i ho
        rw [ho] at hc
        exact wp_cond_false (R1.bool.1 hc) (ihy hg.2 hl.2 h Γ0 σ0 w0 Γ w a K h1 h2 h3 h4 h5 h6 h7)
      · exact h.elim
  | block id x ih =>
    intro e L σ Q hg hl h Γ0 σ0 w0 Γ w a K h1 h2 h3 h4 h5 h6 h7
    unfold wpC at h
    refine wp_block ?_
    refine ih hg hl h Γ0 σ0 w0 Γ w a _ h1 h2 h3 h4 h5 h6 ?_
    rintro ex e1 σ1 a1 w1 ⟨L1, hq⟩ hc
    cases ex with
    | normal => exact h7 _ _ _ _ _ ⟨L1, hq⟩ hc
    | exit id' =>
      simp only at hq
      simp only [exOf, Exit.inBlock]
      split at hq
      · rename_i hid
        rw [if_pos (of_decide_eq_true hid)]
        exact h7 _ _ _ _ _ ⟨L1, hq⟩ hc
      · rename_i hid
        rw [if_neg (of_decide_eq_false hid)]
        exact h7 _ _ _ _ _ ⟨L1, hq⟩ hc
    | ret => exact h7 _ _ _ _ _ ⟨L1, hq⟩ hc
  | scope x ih =>
    intro e L σ Q hg hl h Γ0 σ0 w0 Γ w a K h1 h2 h3 h4 h5 h6 h7
    unfold wpC at h
    refine wp_scope_straight (ih hg hl h Γ0 σ0 w0 Γ w a _ h1 h2 h3 h4 h5 h6 fun ex e1 σ1 a1 w1 hq hc => ?_)
    have := h7 _ _ _ _ _ hq hc
    cases ex <;> exact this
  | loop x ih =>
    intro e L σ Q hg hl h
    unfold wpC at h
    split at h
    · rename_i n hn
      have hin := hl.2 (by omega)
      clear hn
      generalize n + 1 = m at h
      intro Γ0 σ0 w0 Γ w a K h1 h2 h3 h4 h5 h6 h7
      refine wp_loop_ghost (fun k a1 w1 => ∃ e1 L1 σ1 Γ1, unrollW (fun e L σ Q => wpC P C x e L σ Q) k e1 L1 σ1 Q ∧ Reach Γ0 σ0 w0 Γ1 σ1 w1 ∧ Slots Γ1 w1 e1 a1 ∧ SR Γ1 σ1 w1 ∧ a1.tmps.size = N ∧ a1.defers = a.defers) m ⟨e, L, σ, Γ, h, h3, h4, h5, h6, rfl⟩ ?_
      rintro k a1 w1 ⟨e1, L1, σ1, Γ1, k1, k2, k3, k4, k5, k6⟩
      cases k with
      | zero => exact k1.elim
      | succ k =>
        unfold unrollW at k1
        refine ih hg hin k1 Γ0 σ0 w0 Γ1 w1 a1 _ h1 h2 k2 k3 k4 k5 ?_
        rintro ex e2 σ2 a2 w2 ⟨L2, hq⟩ hc
        rw [k6] at hc
        cases ex with
        | normal =>
          obtain ⟨Γ2, l1, l2, l3, l4, l5⟩ := hc
          exact ⟨k, Nat.lt_succ_self k, e2, L2, σ2, Γ2, hq, l3, l1, l2, l4, l5⟩
        | exit id => exact h7 _ _ _ _ _ ⟨L2, hq⟩ hc
        | ret => exact h7 _ _ _ _ _ ⟨L2, hq⟩ hc
    rename_i hn
    split at h
    · rename_i row hrow
      obtain ⟨b, hpre, hwk, houts⟩ := h
      refine Tri.weak hwk ?_
      have ht := hl.1 hn row hrow b hpre
      -- what is behind the loop is weakened in its turn
      intro Γ0 σ0 w0 Γ w a K h1 h2 h3 h4 h5 h6 h7
      refine ht Γ0 σ0 w0 Γ w a K h1 h2 h3 h4 h5 h6 ?_
      rintro ex e1 σ1 a1 w1 ⟨o, ho, y, hpost, rfl, src, hw2⟩ hc
      obtain ⟨Γ1, k1, k2, k3, k4, k5⟩ := hc
      obtain ⟨Γ2, l1, l2, l3⟩ := hw2.ok h1 k3 k1 k2 h2
      exact h7 _ _ _ _ _ ⟨_, outsW_ok houts o ho y hpost⟩ ⟨Γ2, l2, l3, l1, k4, k5⟩
    · exact h.elim
  | _ => intro e L σ Q hg; simp [goodCode] at hg

/-- A round of a loop. -/
theorem wpR_ok (hC : SpecsOk P C) (hmix : P.follows .mixedOrders = true) {N : Nat} {c : Code} {T : List (Nat × D)} {Sg : Store} {Q : PostE} (hg : goodCode C.M N c = true) (hl : LoopsIn C.unr (LoopFits P C N) c) (h : wpR P C c T Sg Q) : Tri P C.n0 N c (tb T) Sg Q :=
  (wpC_ok hC hmix hg hl h).mono fun ex e σ ⟨_, hq⟩ => hq

/-! ### functions -/
theorem dataFun_ok (hC : SpecsOk P C) (hmix : P.follows .mixedOrders = true) (h0 : C.n0 = 0) {f : FuncId} {fn : Func} (hf : P.funcs[f]? = some fn) (hg : goodFn C.M fn = true) (hl : LoopsIn C.unr (LoopFits P C fn.ntmps) (bodyOf fn)) {args : List D} (hn : args.length = fn.params.size + fn.nfree)
    {r : D} (hr : frz 0 [] r = some r) (h : wpF P C fn args r) : DataFun P f args r := by
  refine ⟨hr, fun Γ0 w vargs hs hargs => ?_⟩
  unfold goodFn at hg
  simp only [Bool.and_eq_true, bne_iff_ne, ne_eq, decide_eq_true_eq] at hg
  obtain ⟨⟨hname, hnt⟩, hbody⟩ := hg
  cases hc : fn.body with
  | none => rw [hc] at hbody; cases hbody
  | some c =>
    rw [hc] at hbody
    simp only at hbody
    have hbo : bodyOf fn = c := by unfold bodyOf; rw [hc]
    unfold wpF at h
    rw [hbo] at h hl
    refine .inl ⟨⟨fn, hf, hname, by rw [hc]; rfl⟩, ?_⟩
    refine calls_of_wp hf hc ?_
    have hlen : args.length = vargs.size := by simpa using hargs.length
    have htri := wpC_ok hC hmix hbody hl h
    rw [h0] at htri
    refine htri Γ0 [] w Γ0 w _ _ rfl (fun id hid => hs.below id hid) (.refl _ _ _) (entry_slots hargs _) hs (by simp; omega) ?_
    rintro ex e' σ' a' w' ⟨L, hq⟩ ⟨Γ', k1, k2, k3, k4, k5⟩
    have key : onO (resultsD P fn.results.toList e' σ') (fun d => frzW σ' d fun r' => r' = r) → ∃ v, (results fn a'.tmps).run P w' = .ok v w' ∧ ∃ v' C', Ending.returned v = Ending.returned v' ∧ DataR C' w' r v' ∧ Behind Γ0.C w C' w' := by
      intro hq
      obtain ⟨d, h1, h2⟩ := onO_ok hq
      obtain ⟨r', h3, rfl⟩ := frzW_ok h2 0
      obtain ⟨v, hv, hrel⟩ := results_ok k2 k1 h1
      refine ⟨v, hv, v, fun b => Γ'.C b ∨ (w.heap.size ≤ b ∧ b < w'.heap.size), rfl, ?_, ?_⟩
      · have htr := k3.tr
        refine frz_ok (Γ' := { Γ' with C := fun b => Γ'.C b ∨ (w.heap.size ≤ b ∧ b < w'.heap.size) }) k2 ⟨fun b hb => .inl hb, fun _ h => h, fun _ _ => rfl, fun _ _ => rfl, fun _ _ => rfl⟩ hrel h3 ?_
        intro id st e xs hst ho
        obtain ⟨⟨_, _, c, _, _, _, hh, _⟩, _, hcst⟩ := k2.row _ _ _ _ ho
        have hlt := (Array.getElem?_eq_some_iff.1 hh).1
        cases st with
        | own =>
          rcases htr.own _ ⟨id, e, xs, ho, rfl⟩ with h | h
          · obtain ⟨id', _, _, ho', _⟩ := h; simp [Store.obj] at ho'
          · exact .inr ⟨h, hlt⟩
        | cst => exact .inl (hcst rfl)
        | shut => exact absurd rfl hst
      · have htr := k3.tr
        have hno : ∀ b, ¬ Own Γ0 [] b := by rintro b ⟨id', _, _, ho', _⟩; simp [Store.obj] at ho'
        refine ⟨fun b hb => ?_, fun b hb => .inl (htr.agree.C b hb), fun b hb => htr.kept b hb (hno b), htr.os, htr.tape, htr.output, htr.size⟩
        rcases hb with hb | hb
        · refine ⟨?_, k2.old b hb⟩
          rcases htr.cnew b hb with h | h | h
          · exact .inl h
          · exact .inr h
          · exact absurd h (hno _)
        · exact ⟨.inr hb.1, hb.2⟩
    cases ex with
    | exit id => exact hq.elim
    | normal => obtain ⟨v, hv, v', C', e1, h5, h6⟩ := key hq; injection e1 with e1; subst e1; exact ⟨k5, v, hv, v, C', rfl, h5, h6⟩
    | ret => obtain ⟨v, hv, v', C', e1, h5, h6⟩ := key hq; injection e1 with e1; subst e1; exact ⟨k5, v, hv, v, C', rfl, h5, h6⟩
/-- A function that works on its caller's memory. -/
def endR1 (P : Program) (fn : Func) (r : D) (σ' : Store) : KC := fun ex e L σ =>
  match ex with
  | .exit _ => False
  | _ => onO (resultsD P fn.results.toList e σ) fun d => d = r ∧ σ = σ'
theorem refFun_ok (hC : SpecsOk P C) (hmix : P.follows .mixedOrders = true) {f : FuncId} {fn : Func} (hf : P.funcs[f]? = some fn) (hg : goodFn C.M fn = true) (hl : LoopsIn C.unr (LoopFits P C fn.ntmps) (bodyOf fn)) {args : List D} (hn : args.length = fn.params.size + fn.nfree)
    {σ σ' : Store} (h0 : C.n0 = σ.length) {r : D} (h : wpC P C (bodyOf fn) (entry args) (fun _ => .no) σ (endR1 P fn r σ')) : RefFun P f args σ r σ' := by
  intro Γ w vargs hs hargs
  unfold goodFn at hg
  simp only [Bool.and_eq_true, bne_iff_ne, ne_eq, decide_eq_true_eq] at hg
  obtain ⟨⟨hname, hnt⟩, hbody⟩ := hg
  cases hc : fn.body with
  | none => rw [hc] at hbody; cases hbody
  | some c =>
    rw [hc] at hbody
    simp only at hbody
    have hbo : bodyOf fn = c := by unfold bodyOf; rw [hc]
    rw [hbo] at h hl
    refine .inl ⟨⟨fn, hf, hname, by rw [hc]; rfl⟩, ?_⟩
    refine calls_of_wp hf hc ?_
    have hlen : args.length = vargs.size := by simpa using hargs.length
    have htri := wpC_ok hC hmix hbody hl h
    rw [h0] at htri
    refine htri Γ σ w Γ w _ _ rfl (fun id hid => hs.below id hid) (.refl _ _ _) (entry_slots hargs _) hs (by simp; omega) ?_
    rintro ex e' σ1 a' w' ⟨L, hq⟩ ⟨Γ', k1, k2, k3, k4, k5⟩
    have key : onO (resultsD P fn.results.toList e' σ1) (fun d => d = r ∧ σ1 = σ') → ∃ v, (results fn a'.tmps).run P w' = .ok v w' ∧ Post Γ σ w r σ' (.returned v) w' := by
      intro hq
      obtain ⟨d, h1, rfl, rfl⟩ := onO_ok hq
      obtain ⟨v, hv, hrel⟩ := results_ok k2 k1 h1
      exact ⟨v, hv, v, Γ', rfl, hrel, k2, k3⟩
    cases ex with
    | exit id => exact hq.elim
    | normal => obtain ⟨v, hv, hp⟩ := key hq; exact ⟨k5, v, hv, hp⟩
    | ret => obtain ⟨v, hv, hp⟩ := key hq; exact ⟨k5, v, hv, hp⟩
theorem refFun_run {M : Modes} (hgood : GoodM P M) (hprim : PrimOk P M) (hmix : P.follows .mixedOrders = true) (n : Nat) {f : FuncId} {args : List D} {σ σ' : Store} {r : D} (h : (runN P M n).1 f args σ = some (r, σ')) : RefFun P f args σ r σ' :=
  fun Γ w vargs hs hargs => run_ok hgood hprim hmix f args σ r σ' Γ w vargs (run_iff.2 ⟨n, h⟩) hs hargs
/-- What is computed whole. -/
theorem dataFun_run {M : Modes} (hgood : GoodM P M) (hprim : PrimOk P M) (hmix : P.follows .mixedOrders = true) (n : Nat) {f : FuncId} {args : List D} {r : D} (hr : frz 0 [] r = some r) (h : (((runN P M n).1 f args []).bind fun q => frz 0 q.2 q.1) = some r) : DataFun P f args r := by
  obtain ⟨⟨r0, τ⟩, h1, h2⟩ := Option.bind_eq_some_iff.1 h
  refine ⟨hr, fun Γ0 w vargs hs hargs => ?_⟩
  exact pure_call (run_ok hgood hprim hmix) hs (by rintro b ⟨id', _, _, ho', _⟩; simp [Store.obj] at ho') hargs (run_iff.2 ⟨n, h1⟩) h2
/-- What a law answers. -/
theorem law_data {f : FuncId} {xs : List D} {args : Array Value} {W : World} (hent : Enters P f) (hr : R (Old W) W none xs args.toList) (h : DataFun P f xs (.bool true)) : Calls P f args W fun e W' => e = .returned (.bool true) ∧ RowKit.Below W.heap.size W W' := by
  have key : ∀ {ds : List D} {vs : List Value}, R (Old W) W none ds vs → R (Old W) W none ds vs := id
  have hs : SR (Old W) [] W := ⟨fun id st esz xs h => by simp [Store.obj] at h, fun id st kvs h => by simp [Store.obj] at h, fun id id' o o' h => by simp [Store.obj] at h, fun id o h => by simp [Store.obj] at h, fun b hb => hb, fun id h => h.elim⟩
  refine ((h.2 (Old W) W args hs hr).calls hent).mono ?_
  rintro e W' ⟨v, C', rfl, h1, h2⟩
  have := h1 { Old W with C := C' } (fun b hb => hb)
  refine ⟨by rw [R1.bool.1 this], ⟨h2.os, h2.tape, h2.output, h2.size, fun k hk => h2.kept k hk⟩⟩
end
end Go.Proofs.Ytgibpomhiilehaa.Dv
