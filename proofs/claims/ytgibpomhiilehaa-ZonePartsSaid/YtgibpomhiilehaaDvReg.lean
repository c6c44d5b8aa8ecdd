/- The machine carries out a region as the evaluator does, in any order it may draw. -/
import Derived.Test.YtgibpomhiilehaaDvIdx
set_option linter.unusedVariables false
set_option linter.unusedSimpArgs false
namespace Go.Proofs.Ytgibpomhiilehaa.Dv
open Go

section
variable {P : Program} {M : Modes} {call : CallF} {ops : Array Oper} {base N : Nat} {Γ Γ' : Ctx} {w w' : World} {σ σ' : Store} {Q : Exit → Act → World → Prop}

/-! ### calls -/
structure Reach (Γ : Ctx) (σ : Store) (w : World) (Γ' : Ctx) (σ' : Store) (w' : World) : Prop where
  tr : Tr Γ σ w Γ' σ' w'
  len : σ.length ≤ σ'.length
  anew : ∀ id, Γ'.A id → Γ.A id ∨ σ.length ≤ id
theorem Reach.refl (Γ : Ctx) (σ : Store) (w : World) : Reach Γ σ w Γ σ w := ⟨.refl _ _ _, Nat.le_refl _, fun _ h => .inl h⟩
theorem Reach.trans {Γ1 Γ2 Γ3 : Ctx} {σ1 σ2 σ3 : Store} {w1 w2 w3 : World} (h : Reach Γ1 σ1 w1 Γ2 σ2 w2) (k : Reach Γ2 σ2 w2 Γ3 σ3 w3) : Reach Γ1 σ1 w1 Γ3 σ3 w3 :=
  ⟨h.tr.trans k.tr, Nat.le_trans h.len k.len, fun id hid => by
    rcases k.anew id hid with h1 | h1
    · exact h.anew id h1
    · exact .inr (Nat.le_trans h.len h1)⟩
def Post (Γ : Ctx) (σ : Store) (w : World) (r : D) (σ' : Store) (x : Ending) (w' : World) : Prop :=
  ∃ v Γ', x = .returned v ∧ R1 Γ' w' r v ∧ SR Γ' σ' w' ∧ Reach Γ σ w Γ' σ' w'
def Enters (P : Program) (f : FuncId) : Prop := ∃ fn, P.funcs[f]? = some fn ∧ fn.name ≠ "runtime.NumGoroutine" ∧ fn.body.isSome = true
/-- A call comes to this: a function's body is gone through, or the model itself has its answer. -/
def Does (P : Program) (f : FuncId) (vargs : Array Value) (w : World) (Q : Ending → World → Prop) : Prop :=
  (Enters P f ∧ Calls P f vargs w Q) ∨ ∃ v w', (callFunc f vargs).run P w = .ok (.value v) w' ∧ Q (.returned v) w'
theorem Does.mono {f : FuncId} {vargs : Array Value} {Q Q' : Ending → World → Prop} (h : Does P f vargs w Q) (hq : ∀ x w', Q x w' → Q' x w') : Does P f vargs w Q' := by
  rcases h with ⟨h1, h2⟩ | ⟨v, w', h1, h2⟩
  · exact .inl ⟨h1, h2.mono hq⟩
  · exact .inr ⟨v, w', h1, hq _ _ h2⟩
theorem Enters.of {f : FuncId} {fn : Func} (hf : P.funcs[f]? = some fn) (h : (fn.name != "runtime.NumGoroutine" && fn.body.isSome) = true) : Enters P f := by
  rw [Bool.and_eq_true, bne_iff_ne] at h
  exact ⟨fn, hf, h.1, h.2⟩
theorem Enters.run {f : FuncId} (h : Enters P f) (vs : Array Value) : (callFunc f vs).run P w = .ok (.enter f vs) w := by
  obtain ⟨fn, hfn, hname, hbody⟩ := h
  have hnb : fn.body.isNone = false := by cases hb : fn.body <;> simp_all
  unfold callFunc
  rw [Sem.run_bind]
  change Result.andThen (.ok P w) _ = _
  rw [Result.andThen_ok]
  simp only [hfn, hnb, beq_eq_false_iff_ne.2 hname, Bool.false_eq_true, if_false]
  rfl
theorem Does.calls {f : FuncId} {vargs : Array Value} {Q : Ending → World → Prop} (h : Does P f vargs w Q) (he : Enters P f) : Calls P f vargs w Q := by
  rcases h with ⟨_, h⟩ | ⟨v, w', h, _⟩
  · exact h
  · rw [he.run] at h; cases h
def CallOk (P : Program) (c : CallF) : Prop :=
  ∀ (f : FuncId) (args : List D) (σ : Store) (r : D) (σ' : Store) (Γ : Ctx) (w : World) (vargs : Array Value), c f args σ = some (r, σ') → SR Γ σ w → R Γ w none args vargs.toList →
    Does P f vargs w (Post Γ σ w r σ')

/-! ### lengths -/
theorem append_len {t : TypeId} {s x : D} {aid : Nat} {σ : Store} {r : D × Store × Foot} (h : evAppend P t s x aid σ = some r) : r.2.1.length = σ.length := by
  unfold evAppend at h
  split at h
  · simp only at h
    split at h
    · split at h
      · split at h
        · split at h
          · split at h
            · injection h with h; subst h; rfl
            · split at h
              · injection h with h; subst h; simp [length_put]
              · cases h
          · split at h
            · split at h
              · split at h
                · injection h with h; subst h; simp [length_put]
                · split at h
                  · injection h with h; subst h; simp [length_put]
                  · split at h
                    · injection h with h; subst h; simp [length_put]
                    · cases h
              · cases h
            · cases h
          · cases h
        · cases h
      · cases h
    · cases h
  · cases h
theorem appendZ_len {t : TypeId} {s : D} {n : Int} {aid : Nat} {σ : Store} {r : D × Store × Foot} (h : evAppendZ P t s n aid σ = some r) : r.2.1.length = σ.length := by
  unfold evAppendZ at h
  split at h
  · simp only at h
    split at h
    · split at h
      · injection h with h; subst h; simp [length_put]
      · cases h
    · cases h
  · simp only at h
    split at h
    · injection h with h; subst h; simp [length_put]
    · cases h
  · cases h
theorem copy_len {t : TypeId} {s x : D} {σ : Store} {r : D × Store × Foot} (h : evCopy P t s x σ = some r) : r.2.1.length = σ.length := by
  unfold evCopy at h
  split at h
  · split at h
    · simp only at h
      split at h
      · injection h with h; subst h; simp [length_put]
      · cases h
    · cases h
  · cases h
theorem clear_len {t : TypeId} {s : D} {σ : Store} {r : D × Store × Foot} (h : evClear P t s σ = some r) : r.2.1.length = σ.length := by
  unfold evClear at h
  split at h
  · simp only at h
    split at h
    · split at h
      · injection h with h; subst h; simp [length_put]
      · cases h
    · cases h
  · cases h
theorem local_len {F : StepF} {σ s : Store} {v : D} {f : Foot} (h : Local F σ v s f) (hf : f ≠ .wrAll ∧ f ≠ .rdAll ∧ ∀ ids, f ≠ .call ids) : s.length = σ.length := by
  cases f with
  | none => rw [h.1]
  | rd => rw [h.1]
  | wr => obtain ⟨o, rfl, _⟩ := h; exact length_put ..
  | new => obtain ⟨o, rfl, _⟩ := h; exact length_put ..
  | _ => simp at hf
theorem builtin_len {b : Builtin} {ats : List TypeId} {xs : List D} {aid : Nat} {σ : Store} {r : D × Store × Foot} (h : evBuiltin P b ats xs aid σ = some r) : r.2.1.length = σ.length := by
  have h0 := h
  unfold evBuiltin at h
  split at h
  · exact local_len (builtin_local h0) (by rw [builtin_none (.inl rfl) h0]; simp)
  · exact local_len (builtin_local h0) (by rw [builtin_none (.inr (.inl rfl)) h0]; simp)
  · split at h
    · exact append_len h
    · split at h
      · exact appendZ_len h
      · cases h
    · cases h
  · exact copy_len h
  · exact clear_len h
  · exact local_len (builtin_local h0) (by rw [builtin_none (.inr (.inr (.inl rfl))) h0]; simp)
  · exact local_len (builtin_local h0) (by rw [builtin_none (.inr (.inr (.inr rfl))) h0]; simp)
  · cases h
theorem evOp_len {o : Oper} {e : Env} {aid : Nat} {σ : Store} {r : D × Store × Foot} (h : evOp P o e aid σ = some r) : r.2.1.length = σ.length := by
  by_cases hb : ∃ b as ts, o.op = .call { callee := .builtin b, args := as, argTypes := ts }
  · obtain ⟨b, as, ts, ho⟩ := hb
    unfold evOp at h
    simp only [ho] at h
    exact builtin_len h
  · have hs : step P (fun _ _ _ => none) o e aid σ = some r := by
      cases hg : isGo o with
      | false => rw [step_other hg]; exact h
      | true =>
        obtain ⟨f, as, ts, ho⟩ := isGo_true hg
        unfold evOp at h
        simp only [ho] at h
        cases h
    refine local_len (evOp_local h) ?_
    obtain ⟨dst, op, type, pos, after, guard⟩ := o
    cases op
    case call c =>
      obtain ⟨callee, as, ts⟩ := c
      cases callee
      case builtin b => exact absurd ⟨b, as, ts, rfl⟩ hb
      all_goals (simp only [evOp] at h; cases h)
    case store t a x =>
      simp only [evOp] at h
      obtain ⟨⟨s, f⟩, hd, rfl⟩ := Option.map_eq_some_iff.1 h
      simp only
      unfold evStore at hd
      split at hd
      · split at hd
        · split at hd
          · split at hd
            · obtain ⟨y, hy, e⟩ := Option.map_eq_some_iff.1 hd
              injection e with e1 e2
              subst e2
              simp
            · cases hd
          · cases hd
        · cases hd
      · cases hd
    case makeFunc fn first caps =>
      cases fn
      case func => rw [cls_q rfl hs]; simp
      all_goals (simp only [evOp] at h; cases h)
    all_goals first
      | (rw [cls_q rfl hs]; simp; done)
      | (rw [(cls_n rfl hs).1]; simp; done)
      | (have := cls_r rfl hs
         generalize r.2.2 = f at this
         cases f <;> first | (cases this; done) | simp)
      | (simp only [evOp] at h; cases h; done)

/-! ### one operation -/
theorem Slots.put {e : Env} {a : Act} (hsl : Slots Γ w e a) (htr : Tr Γ σ w Γ' σ' w') (hs : SR Γ σ w) {dst : Option Nat} (hd : ∀ d, dst = some d → d < a.tmps.size) {v : D} {u : Value} (hv : R1 Γ' w' v u) : Slots Γ' w' (putO e dst v) (a.put dst u) := by
  intro t
  cases dst with
  | none => exact htr.R hs (hsl t)
  | some d =>
    have hlt := hd d rfl
    by_cases ht : t = d
    · subst ht
      have : (a.put (some t) u).tmps.getD t Go.undef = u := by simp [Act.put, hlt]
      rw [this]
      simpa [putO, Env.put] using hv
    · have : (a.put (some d) u).tmps.getD t Go.undef = a.tmps.getD t Go.undef := by simp [Act.put, Array.getElem?_setIfInBounds_ne (Ne.symm ht)]
      rw [this]
      simpa [putO, Env.put, ht] using htr.R hs (hsl t)
theorem put_size (a : Act) (dst : Option Nat) (v : Value) : (a.put dst v).tmps.size = a.tmps.size := by cases dst <;> simp [Act.put]
theorem put_defers (a : Act) (dst : Option Nat) (v : Value) : (a.put dst v).defers = a.defers := by cases dst <;> rfl
theorem wants_sound {e : Env} {a : Act} (hsl : Slots Γ w e a) {o : Oper} {b : Bool} (h : wants ops e o = some b) : Region.wanted o (yielded ops a.tmps) = b := by
  unfold wants at h
  unfold Region.wanted
  split at h
  · rename_i hg; rw [hg]; injection h
  · rename_i g want hg
    rw [hg]
    simp only
    split at h
    · rename_i d hd
      have hr := hsl d
      unfold yielded
      rw [hd]
      simp only [Option.bind_some]
      split at h
      · rename_i c hc
        injection h with h; subst h
        rw [hc] at hr
        have := R1.bool.1 hr
        cases ht : a.tmps[d]? with
        | none => rw [Array.getD_eq_getD_getElem?, ht] at this; simp [Go.undef] at this
        | some x =>
          rw [Array.getD_eq_getD_getElem?, ht] at this
          simp only [Option.getD_some] at this
          subst this
          cases c <;> cases want <;> rfl
      · rename_i hc
        injection h with h; subst h
        rw [hc] at hr
        have := R1.undef.1 hr
        cases ht : a.tmps[d]? with
        | none => rfl
        | some x =>
          rw [Array.getD_eq_getD_getElem?, ht] at this
          simp only [Option.getD_some] at this
          subst this
          rfl
      · cases h
    · cases h
theorem op_sim (hcall : CallOk P call) {i : Nat} {o : Oper} (ho : ops[i]? = some o) {a : Act} {e : Env} {aid : Nat} {v : D} {f : Foot} (hd : ∀ d, o.dst = some d → d < a.tmps.size)
    (h : stepW P call ops o aid e σ = some (v, σ', f)) (hs : SR Γ σ w) (hsl : Slots Γ w e a) (hal : allocs o = true → ¬ Γ.A aid ∧ aid < σ.length) {K : Act → World → Prop}
    (hK : ∀ u w' Γ', Slots Γ' w' (putO e o.dst v) (a.put o.dst u) → SR Γ' σ' w' → Tr Γ σ w Γ' σ' w' → σ.length ≤ σ'.length → (∀ id, Γ'.A id → Γ.A id ∨ (allocs o = true ∧ id = aid) ∨ σ.length ≤ id) → K (a.put o.dst u) w') :
    wpOp P ops Q i K a w := by
  unfold wpOp
  simp only [ho]
  unfold stepW at h
  split at h
  · rename_i hw
    rw [wants_sound hsl hw]
    simp only [if_true]
    left
    cases hg : isGo o with
    | false =>
      rw [step_other hg] at h
      obtain ⟨nx, w', Γ', u, hr, hn, h1, h2, h3, h4⟩ := evOp_ok hs hsl hal h
      have hlen := evOp_len h
      unfold Oper.wp
      rw [hr]
      have hput := hK u w' Γ' (hsl.put h3 hs hd h1) h2 h3 (by simp only at hlen; omega) (fun id hid => by
        rcases h4 id hid with h4 | h4
        · exact .inl h4
        · by_cases hall : allocs o = true
          · rw [if_pos hall] at h4; injection h4 with h4; exact .inr (.inl ⟨hall, h4⟩)
          · rw [if_neg hall] at h4; cases h4)
      rcases hn with rfl | ⟨rfl, rfl⟩
      · exact hput
      · exact hput
    | true =>
      obtain ⟨g, as, ts, hop⟩ := isGo_true hg
      rw [step_go hop] at h
      split at h
      case h_2 => cases h
      rename_i f' bs hce
      split at h
      case h_2 => cases h
      rename_i r' s' hc
      injection h with h; injection h with e1 h; injection h with e2 e3
      subst e1 e2
      unfold evCallee at hce
      simp only at hce
      split at hce
      case h_2 => cases hce
      rename_i g' first caps hf
      injection hce with hce; injection hce with e4 e5
      subst e4 e5
      have hfr := hsl.opnd g
      rw [hf] at hfr
      obtain ⟨us, ws, hev, hu, hw'⟩ := R1.fn.1 hfr
      have hargs := hsl.opnds as.toList
      have hdoes := hcall _ _ _ _ _ Γ w (us.toArray ++ as.map a.eval ++ ws.toArray) hc hs (by
        simp only [Array.toList_append, Array.toList_map, List.append_assoc]
        exact hu.append (hargs.append hw'))
      have hrun : ∀ R, (callFunc g' (us.toArray ++ as.map a.eval ++ ws.toArray)).run P w = R → (execOp a.eval o).run P w = R := by
        intro R hR
        have he : execOp a.eval o = (do let d ← resolve a.eval { callee := .value g, args := as, argTypes := ts } o.type; invoke d.target d.args) := by unfold execOp; rw [hop]
        rw [he]
        unfold resolve
        simp only [hev]
        exact hR
      unfold Oper.wp
      rcases hdoes with ⟨hent, hcalls⟩ | ⟨v', w'', hr, hp⟩
      · rw [hrun _ (hent.run _), Oper.upon_enter]
        refine hcalls.mono fun x w'' hp => ?_
        obtain ⟨u, Γ', rfl, h1, h2, h3⟩ := hp
        exact hK u w'' Γ' (hsl.put h3.tr hs hd h1) h2 h3.tr h3.len (fun id hid => (h3.anew id hid).imp_right .inr)
      · rw [hrun _ hr]
        obtain ⟨u, Γ', hu', h1, h2, h3⟩ := hp
        injection hu' with hu'
        subst hu'
        exact hK v' w'' Γ' (hsl.put h3.tr hs hd h1) h2 h3.tr h3.len (fun id hid => (h3.anew id hid).imp_right .inr)
  · rename_i hw
    rw [wants_sound hsl hw]
    simp only [Bool.false_eq_true, if_false]
    injection h with h; injection h with e1 h; injection h with e2 e3
    subst e1 e2
    exact hK Go.undef w Γ (hsl.put (.refl _ _ _) hs hd (R1.undef.2 rfl)) hs (.refl _ _ _) (Nat.le_refl _) fun _ h => .inl h
  · cases h

/-! ### regions -/
def Pend (ops : Array Oper) (base : Nat) (Γ : Ctx) (σ : Store) (I : List Nat) : Prop := ∀ i ∈ I, ∀ o, ops[i]? = some o → allocs o = true → ¬ Γ.A (aidAt ops base i) ∧ aidAt ops base i < σ.length
theorem Pend.next {i : Nat} {I : List Nat} (hp : Pend ops base Γ σ I) {o : Oper} (ho : ops[i]? = some o) (hlen : σ.length ≤ σ'.length)
    (hA : ∀ id, Γ'.A id → Γ.A id ∨ (allocs o = true ∧ id = aidAt ops base i) ∨ σ.length ≤ id) {J : List Nat} (hJ : ∀ j ∈ J, j ∈ I ∧ j ≠ i) : Pend ops base Γ' σ' J := by
  intro j hj y hy hal
  obtain ⟨hI, hne⟩ := hJ j hj
  obtain ⟨h1, h2⟩ := hp j hI y hy hal
  refine ⟨fun h => ?_, by omega⟩
  rcases hA _ h with h | ⟨ha, h⟩ | h
  · exact h1 h
  · rcases Nat.lt_or_gt_of_ne hne with hlt | hgt
    · have := aid_lt (base := base) hlt hy hal; omega
    · have := aid_lt (base := base) hgt ho ha; omega
  · omega
def DstOk (ops : Array Oper) (n : Nat) : Prop := ∀ (i : Nat) (o : Oper) (d : Nat), ops[i]? = some o → o.dst = some d → d < n
/-- What a region has come to. -/
def RegEnd (N base : Nat) (Γ : Ctx) (σ : Store) (w : World) (e' : Env) (σ' : Store) (df : List Deferred) (a' : Act) (w' : World) : Prop :=
  ∃ Γ', Slots Γ' w' e' a' ∧ SR Γ' σ' w' ∧ Tr Γ σ w Γ' σ' w' ∧ σ.length ≤ σ'.length ∧ (∀ id, Γ'.A id → Γ.A id ∨ base ≤ id) ∧ a'.tmps.size = N ∧ a'.defers = df
theorem RegEnd.step {N base : Nat} {e' : Env} {σ1 σ' : Store} {Γ1 : Ctx} {w1 : World} {df : List Deferred} {a' : Act} {w' : World} (htr : Tr Γ σ w Γ1 σ1 w1) (hlen : σ.length ≤ σ1.length)
    (hA : ∀ id, Γ1.A id → Γ.A id ∨ base ≤ id) (h : RegEnd N base Γ1 σ1 w1 e' σ' df a' w') : RegEnd N base Γ σ w e' σ' df a' w' := by
  obtain ⟨Γ', h1, h2, h3, h4, h5, h6⟩ := h
  exact ⟨Γ', h1, h2, htr.trans h3, Nat.le_trans hlen h4, fun id hid => by
    rcases h5 id hid with h | h
    · exact hA id h
    · exact .inr h, h6⟩
theorem ops_sim (hcall : CallOk P call) (hdst : DstOk ops N) : ∀ {I : List Nat} {Γ : Ctx} {w : World} {e e' : Env} {σ σ' : Store} {fs : List Foot} {a : Act}, evI P call ops base I e σ = some (e', σ', fs) → Slots Γ w e a → SR Γ σ w →
    a.tmps.size = N → I.Nodup → Pend ops base Γ σ I → base ≤ σ.length → (∀ a' w', RegEnd N base Γ σ w e' σ' a.defers a' w' → Q .normal a' w') → wpOps P ops Q I a w
  | [], Γ, w, e, e', σ, σ', fs, a, h, hsl, hs, hN, _, _, _, hQ => by
    unfold evI at h
    injection h with h; injection h with h1 h; injection h with h2 h3
    subst h1 h2
    exact hQ a w ⟨Γ, hsl, hs, .refl _ _ _, Nat.le_refl _, fun _ h => .inl h, hN, rfl⟩
  | i :: I, Γ, w, e, e', σ, σ', fs, a, h, hsl, hs, hN, hnd, hp, hb, hQ => by
    obtain ⟨o, v, σ1, f, fs', ho, h1, h2, _⟩ := evI_cons.1 h
    rw [wpOps_cons]
    refine op_sim hcall ho (fun d hd => hN ▸ hdst i o d ho hd) h1 hs hsl (fun ha => hp i (List.mem_cons_self ..) o ho ha) ?_
    intro u w1 Γ1 k1 k2 k3 k4 k5
    have hA : ∀ id, Γ1.A id → Γ.A id ∨ base ≤ id := fun id hid => by
      rcases k5 id hid with h | ⟨_, rfl⟩ | h
      · exact .inl h
      · exact .inr (by unfold aidAt; omega)
      · exact .inr (by omega)
    obtain ⟨hni, hnd'⟩ := List.nodup_cons.1 hnd
    refine ops_sim hcall hdst h2 k1 k2 (by rw [put_size]; exact hN) hnd' (hp.next ho k4 k5 fun j hj => ⟨List.mem_cons_of_mem _ hj, fun hh => hni (hh ▸ hj)⟩) (by omega) ?_
    intro a' w' hr
    rw [put_defers] at hr
    exact hQ a' w' (hr.step k3 k4 hA)

/-! ### drawn regions -/
def rem (ops : Array Oper) (listed : Array Bool) : List Nat := (List.range ops.size).filter fun i => !listed.getD i true
theorem mem_rem {listed : Array Bool} {i : Nat} : i ∈ rem ops listed ↔ i < ops.size ∧ listed.getD i true = false := by
  unfold rem
  rw [List.mem_filter, List.mem_range]
  simp
theorem rem_split {listed : Array Bool} (hsz : listed.size = ops.size) {i : Nat} (hi : i ∈ rem ops listed) :
    ∃ pre post, rem ops listed = pre ++ i :: post ∧ rem ops (listed.setIfInBounds i true) = pre ++ post ∧ (∀ j ∈ pre, j < i) ∧ ∀ j ∈ pre ++ post, j ≠ i := by
  obtain ⟨hlt, hun⟩ := mem_rem.1 hi
  have hr : List.range ops.size = List.range i ++ i :: List.range' (i + 1) (ops.size - i - 1) := by
    rw [List.range_eq_range', List.range_eq_range']
    have h1 : i :: List.range' (i + 1) (ops.size - i - 1) = List.range' i (ops.size - i) := by
      have : ops.size - i = (ops.size - i - 1) + 1 := by omega
      conv => rhs; rw [this]
      rfl
    rw [h1]
    have := List.range'_append (s := 0) (m := i) (n := ops.size - i) (step := 1)
    simp only [Nat.one_mul, Nat.zero_add] at this
    rw [this]
    congr 1
    omega
  have hother : ∀ j, j ≠ i → (listed.setIfInBounds i true).getD j true = listed.getD j true := fun j hj => getD_set_ne true (Ne.symm hj)
  refine ⟨(List.range i).filter fun k => !listed.getD k true, (List.range' (i + 1) (ops.size - i - 1)).filter fun k => !listed.getD k true, ?_, ?_, ?_, ?_⟩
  · unfold rem
    rw [hr, List.filter_append, List.filter_cons]
    simp [hun]
  · unfold rem
    rw [hr, List.filter_append, List.filter_cons]
    have hset : (listed.setIfInBounds i true).getD i true = true := by
      simp [hsz, hlt]
    rw [hset]
    simp only [Bool.not_true, Bool.false_eq_true, if_false]
    congr 1
    · refine List.filter_congr fun j hj => ?_
      rw [hother j (by have := List.mem_range.1 hj; omega)]
    · refine List.filter_congr fun j hj => ?_
      rw [hother j (by have := List.mem_range'_1.1 hj; omega)]
  · intro j hj
    exact List.mem_range.1 (List.mem_filter.1 hj).1
  · intro j hj
    rcases List.mem_append.1 hj with hj | hj
    · have := List.mem_range.1 (List.mem_filter.1 hj).1; omega
    · have := List.mem_range'_1.1 (List.mem_filter.1 hj).1; omega
theorem getD_tf {listed : Array Bool} {i : Nat} (h : listed.getD i true = false) : listed.getD i false = false := by
  rcases Nat.lt_or_ge i listed.size with h' | h'
  · simpa [h'] using h
  · simp [Array.getElem?_eq_none h'] at h
/-- All that stand in no order may change places. -/
def AllFine (M : Modes) (ops : Array Oper) (foot : Nat → Foot) : Prop := ∀ i j, i < ops.size → free (masks ops) j i = true → Fine M ops foot j i
theorem draw_sim {run : CallF} (hcall : CallOk P (callD M run)) (hdst : DstOk ops N) (ht : topo ops = true) {foot : Nat → Foot} (hfine : AllFine M ops foot) :
    ∀ (fuel : Nat) {listed : Array Bool} {Γ : Ctx} {w : World} {e e' : Env} {σ σ' : Store} {a : Act}, listed.size = ops.size → Closed ops listed → (rem ops listed).length ≤ fuel →
    evI P (callD M run) ops base (rem ops listed) e σ = some (e', σ', (rem ops listed).map foot) → Slots Γ w e a → SR Γ σ w →
    a.tmps.size = N → Pend ops base Γ σ (rem ops listed) → base ≤ σ.length → (∀ a' w', RegEnd N base Γ σ w e' σ' a.defers a' w' → Q .normal a' w') → wpAny P .any ops Q fuel listed a w := by
  intro fuel
  have done : ∀ {listed : Array Bool} {Γ : Ctx} {w : World} {e e' : Env} {σ σ' : Store} {a : Act}, rem ops listed = [] →
      evI P (callD M run) ops base (rem ops listed) e σ = some (e', σ', (rem ops listed).map foot) → Slots Γ w e a → SR Γ σ w →
      a.tmps.size = N → (∀ a' w', RegEnd N base Γ σ w e' σ' a.defers a' w' → Q .normal a' w') → Q .normal a w := by
    intro listed Γ w e e' σ σ' a hr h hsl hs hN hQ
    rw [hr] at h
    unfold evI at h
    injection h with h; injection h with h1 h; injection h with h2 h3
    subst h1 h2
    exact hQ a w ⟨Γ, hsl, hs, .refl _ _ _, Nat.le_refl _, fun _ h => .inl h, hN, rfl⟩
  have ready_rem : ∀ {listed : Array Bool} {i : Nat}, i ∈ Region.ready .any ops listed → i ∈ rem ops listed := by
    intro listed i hi
    obtain ⟨hu, o, ho, _⟩ := mem_ready.1 hi
    exact mem_rem.2 ⟨(Array.getElem?_eq_some_iff.1 ho).1, hu⟩
  induction fuel with
  | zero =>
    intro listed Γ w e e' σ σ' a hsz hcl hlen h hsl hs hN hp hb hQ
    have hr : rem ops listed = [] := List.eq_nil_of_length_eq_zero (by omega)
    refine ⟨?_, done hr h hsl hs hN hQ⟩
    cases hR : Region.ready .any ops listed with
    | nil => rfl
    | cons i l =>
      have := ready_rem (listed := listed) (i := i) (by rw [hR]; exact List.mem_cons_self ..)
      rw [hr] at this
      cases this
  | succ fuel ih =>
    intro listed Γ w e e' σ σ' a hsz hcl hlen h hsl hs hN hp hb hQ
    refine ⟨fun hR => ?_, fun i hi => ?_⟩
    · cases hr : rem ops listed with
      | nil => exact done hr h hsl hs hN hQ
      | cons i l =>
        exfalso
        have him : i ∈ rem ops listed := by rw [hr]; exact List.mem_cons_self ..
        obtain ⟨hlt, hun⟩ := mem_rem.1 him
        have : i ∈ Region.ready .any ops listed := by
          refine mem_ready.2 ⟨hun, ops[i], Array.getElem?_eq_getElem hlt, fun ed he hbd => ?_⟩
          have hed := topo_spec ht (Array.getElem?_eq_getElem hlt) he hbd
          by_cases hl : listed.getD ed.on true = true
          · have : ed.on < listed.size := by omega
            simpa [this] using hl
          · exfalso
            have hmem : ed.on ∈ rem ops listed := mem_rem.2 ⟨by omega, by simpa using hl⟩
            have hsorted : (rem ops listed).Pairwise (· < ·) := List.Pairwise.filter _ List.pairwise_lt_range
            rw [hr] at hmem hsorted
            rcases List.mem_cons.1 hmem with h | h
            · omega
            · have := (List.pairwise_cons.1 hsorted).1 _ h
              omega
        rw [hR] at this
        cases this
    · have him := ready_rem hi
      obtain ⟨hun, o, ho, hall⟩ := mem_ready.1 hi
      obtain ⟨pre, post, hr, hr', hpre, hne⟩ := rem_split hsz him
      have hml := mask_listed ht hcl i i o (Nat.le_refl _) ho hall
      rw [hr] at h
      obtain ⟨o', v, τ, ho', h1, h2⟩ := bubble (fun j hj => by
        refine ⟨hpre j hj, hfine i j (Array.getElem?_eq_some_iff.1 ho).1 ?_⟩
        unfold free
        have hjun := (mem_rem.1 (show j ∈ rem ops listed by rw [hr]; exact List.mem_append_left _ hj)).2
        have : ((masks ops).getD i 0).testBit j = false := by
          cases hb : ((masks ops).getD i 0).testBit j with
          | false => rfl
          | true => have := hml j hb; rw [getD_tf hjun] at this; cases this
        rw [this]; simp [hpre j hj]) h
      rw [ho] at ho'
      injection ho' with ho'
      subst ho'
      refine op_sim hcall ho (fun d hd => hN ▸ hdst i o d ho hd) h1 hs hsl (fun ha => hp i him o ho ha) ?_
      intro u w1 Γ1 k1 k2 k3 k4 k5
      have hA : ∀ id, Γ1.A id → Γ.A id ∨ base ≤ id := fun id hid => by
        rcases k5 id hid with h | ⟨_, rfl⟩ | h
        · exact .inl h
        · exact .inr (by unfold aidAt; omega)
        · exact .inr (by omega)
      refine ih (by simpa using hsz) ?_ ?_ (by rw [hr']; exact h2) k1 k2 (by rw [put_size]; exact hN) ?_ (by omega) ?_
      · intro k y hy hl ed he hbd
        by_cases hk : k = i
        · subst hk
          rw [ho] at hy
          injection hy with hy
          subst hy
          exact getD_set_true (hall ed he hbd)
        · rw [getD_set_ne false (Ne.symm hk)] at hl
          exact getD_set_true (hcl k y hy hl ed he hbd)
      · rw [hr']
        rw [hr] at hlen
        simp only [List.length_append, List.length_cons] at hlen ⊢
        omega
      · rw [hr']
        refine hp.next ho k4 k5 fun j hj => ⟨?_, hne j hj⟩
        rw [hr]
        rcases List.mem_append.1 hj with h | h
        · exact List.mem_append_left _ h
        · exact List.mem_append_right _ (List.mem_cons_of_mem _ h)
      · intro a' w' hrE
        rw [put_defers] at hrE
        exact hQ a' w' (hrE.step k3 k4 hA)
end
end Go.Proofs.Ytgibpomhiilehaa.Dv
