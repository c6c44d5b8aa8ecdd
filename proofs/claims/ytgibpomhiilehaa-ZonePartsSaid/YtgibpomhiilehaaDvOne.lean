/- Each operation of the evaluator is the machine's: equality, conversions, literals; and all together. -/
import Derived.Test.YtgibpomhiilehaaDvAll
import Derived.Laws.StructEq
set_option linter.unusedVariables false
set_option linter.unusedSimpArgs false
namespace Go.Proofs.Ytgibpomhiilehaa.Dv
open Go

section
variable {P : Program} {Γ Γ' : Ctx} {w w' : World} {σ σ' : Store}

/-! ### equality -/
theorem eqok_of {t : TypeId} (h : (ti P t).eqok = true) : P.eqGuardType P.depth t = false ∧ P.stoodInHeld t = false ∧ ∀ fields : Array Field, P.underlying t = some (.struct fields) → ∀ f ∈ fields.toList, f.name ≠ "_" := by
  simp only [ti, eqokOf, Bool.and_eq_true, Bool.not_eq_true'] at h
  obtain ⟨⟨h1, h2⟩, h3⟩ := h
  refine ⟨h1, h2, fun fields hf f hm => ?_⟩
  rw [hf] at h3
  simp only [List.all_eq_true, bne_iff_ne] at h3
  exact h3 f hm
theorem nilEq_ok {t e : TypeId} {x y : D} {b : Bool} {u v : Value} {d : Nat} (ht : P.underlying t = some (.pointer e)) (h : nilEq x y = some b) (hx : R1 Γ w x u) (hy : R1 Γ w y v) : (Op.equalIn (d + 1) t u v).run P w = .ok b w := by
  unfold nilEq at h
  split at h
  · injection h with h; subst h
    obtain rfl := R1.nilp.1 hx
    obtain rfl := R1.nilp.1 hy
    simp [Op.equalIn, run_underlying ht]
  · injection h with h; subst h
    obtain rfl := R1.nilp.1 hx
    obtain ⟨_, rfl⟩ := R1.ptr.1 hy
    simp [Op.equalIn, run_underlying ht]
  · injection h with h; subst h
    obtain rfl := R1.nilp.1 hx
    obtain ⟨_, _, _, rfl, _⟩ := R1.cpt.1 hy
    simp [Op.equalIn, run_underlying ht]
  · injection h with h; subst h
    obtain ⟨_, rfl⟩ := R1.ptr.1 hx
    obtain rfl := R1.nilp.1 hy
    simp [Op.equalIn, run_underlying ht]
  · injection h with h; subst h
    obtain ⟨_, _, _, rfl, _⟩ := R1.cpt.1 hx
    obtain rfl := R1.nilp.1 hy
    simp [Op.equalIn, run_underlying ht]
  · cases h
theorem deq_ok : ∀ {n : Nat} {t : TypeId} {x y : D} {b : Bool} {u v : Value} {d : Nat}, deq P n t x y = some b → R1 Γ w x u → R1 Γ w y v → n ≤ d → (Op.equalIn d t u v).run P w = .ok b w
  | 0, t, x, y, b, u, v, d, h, _, _, _ => by simp [deq] at h
  | n + 1, t, x, y, b, u, v, d, h, hx, hy, hd => by
    obtain ⟨d, rfl⟩ : ∃ m, d = m + 1 := ⟨d - 1, by omega⟩
    unfold deq at h
    split at h
    · rename_i a c hk
      injection h with h; subst h
      rw [R1.bool.1 hx, R1.bool.1 hy]
      simp [Op.equalIn, run_underlying (tk_bool hk), BEq.beq]
    · rename_i kk k a k' c hk
      split at h
      · rename_i hkk
        subst hkk
        injection h with h; subst h
        rw [R1.int.1 hx, R1.int.1 hy]
        simp [Op.equalIn, run_underlying (tk_int hk), BEq.beq]
      · cases h
    · rename_i a c hk
      injection h with h; subst h
      rw [R1.str.1 hx, R1.str.1 hy, run_equalIn_string w d t a c (tk_str hk), toList_eq]
    · rename_i fs xs ys hk
      split at h
      · rename_i hok
        obtain ⟨l, hl, rfl⟩ := Option.map_eq_some_iff.1 h
        obtain ⟨fields, hu, rfl⟩ := tk_st hk
        obtain ⟨_, hst, hnm⟩ := eqok_of hok
        obtain ⟨us, rfl, hrx, hlx⟩ := R1.agg.1 hx
        obtain ⟨vs, rfl, hry, hly⟩ := R1.agg.1 hy
        have hfo : P.fieldsOf t = fields := by simp [Program.fieldsOf, hu]
        rw [run_equalIn_struct w d t us.toArray vs.toArray (by rw [hfo]; exact hu) hst, hfo]
        have hnm := hnm fields hu
        clear hu hfo hk h
        generalize fields.toList = fl at hl hnm
        induction fl generalizing l with
        | nil => simp at hl; subst hl; simp [Op.eqFields]
        | cons f fl ih =>
          simp only [List.map_cons, List.mapM_cons, Option.bind_eq_bind, Option.bind_eq_some_iff] at hl
          obtain ⟨b1, hb1, l2, hl2, hp⟩ := hl
          simp only [Option.pure_def, Option.some.injEq] at hp
          subst hp
          have hdn : n ≤ d := Nat.le_of_succ_le_succ hd
          have hn : f.name ≠ "_" := hnm f (by simp)
          simp only [Op.eqFields, hn, ne_eq, not_false_eq_true, if_true]
          split at hb1
          · rename_i pa pb ha hb
            obtain ⟨ca, za, ea, hza, hra⟩ := evPart_run (R1.agg.2 ⟨us, rfl, hrx, hlx⟩) ha
            obtain ⟨cb, zb, eb, hzb, hrb⟩ := evPart_run (R1.agg.2 ⟨vs, rfl, hry, hly⟩) hb
            injection ea with ea; injection eb with eb
            subst ea eb
            have he := deq_ok hb1 hra hrb hdn
            rw [Sem.run_bind, hza, Result.andThen_ok, Sem.run_bind, hzb, Result.andThen_ok, Sem.run_bind, he, Result.andThen_ok]
            cases b1 with
            | false => simp
            | true =>
              simp only [Bool.not_true, Bool.false_eq_true, if_false, List.all_cons, id, Bool.true_and]
              exact ih l2 hl2 (fun g hg => hnm g (by simp [hg]))
          · cases hb1
      · cases h
    · rename_i e hk
      exact nilEq_ok (tk_ptr hk) h hx hy
    · cases h
theorem deq_eqok {n : Nat} {t : TypeId} {xs ys : List D} {b : Bool} (h : deq P (n + 1) t (.agg xs) (.agg ys) = some b) : (ti P t).eqok = true := by
  cases hq : (ti P t).eqok with
  | true => rfl
  | false => cases hk : (ti P t).k <;> simp [deq, hk, hq, nilEq] at h
theorem guard_nil {op : BinOp} {t : TypeId} {xo yo : Operand} {u v : Value} (h : ∀ cs, u ≠ .agg cs) (h' : u ≠ .nilIface) : (eqGuard op t xo yo u v).run P w = .ok () w := by
  cases op <;> cases u <;> simp [eqGuard] at h h' ⊢
theorem bin_ok {op : BinOp} {t : TypeId} {xo yo : Operand} {x y r : D} {u v : Value} (hx : R1 Γ w x u) (hy : R1 Γ w y v) (h : evBin P op t x y = some r) :
    ∃ z, (do eqGuard op t xo yo u v; binOp op t u v : Sem Value).run P w = .ok z w ∧ R1 Γ w r z := by
  have plain : ∀ {z : Value}, (eqGuard op t xo yo u v).run P w = .ok () w → (binOp op t u v).run P w = .ok z w → (do eqGuard op t xo yo u v; binOp op t u v : Sem Value).run P w = .ok z w := fun h1 h2 => by
    rw [Sem.run_bind, h1, Result.andThen_ok, h2]
  unfold evBin at h
  split at h
  · rename_i k a k' c
    obtain rfl := R1.int.1 hx
    obtain rfl := R1.int.1 hy
    have hg : (eqGuard op t xo yo (.int k a) (.int k' c)).run P w = .ok () w := guard_nil (by simp) (by simp)
    split at h
    · obtain ⟨z, hz, hr⟩ := shInt_ok (P := P) (Γ := Γ) (w := w) (t := t) (k' := k') (.inl rfl) h
      exact ⟨z, plain hg hz, hr⟩
    · obtain ⟨z, hz, hr⟩ := shInt_ok (P := P) (Γ := Γ) (w := w) (t := t) (k' := k') (.inr rfl) h
      exact ⟨z, plain hg hz, hr⟩
    · rename_i h1 h2
      split at h
      · rename_i hk
        subst hk
        obtain ⟨z, hz, hr⟩ := binInt_ok (P := P) (Γ := Γ) (w := w) (t := t) (op := op) ⟨h1, h2⟩ h
        exact ⟨z, plain hg hz, hr⟩
      · cases h
  · rename_i a c
    obtain rfl := R1.str.1 hx
    obtain rfl := R1.str.1 hy
    obtain ⟨z, hz, hr⟩ := binStr_ok (P := P) (Γ := Γ) (w := w) (t := t) h
    exact ⟨z, plain (guard_nil (by simp) (by simp)) hz, hr⟩
  · have key : ∀ b, deqTop P t x y = some b → (Op.equalIn 10000 t u v).run P w = .ok b w ∧ (eqGuard op t xo yo u v).run P w = .ok () w ∧
        (binOp .eql t u v = (do pure (.bool (← Op.equal t u v)) : Sem Value)) ∧ (binOp .neq t u v = (do pure (.bool (!(← Op.equal t u v))) : Sem Value)) := by
      intro b hb
      unfold deqTop at hb
      split at hb
      · rename_i a c
        obtain rfl := R1.bool.1 hx
        obtain rfl := R1.bool.1 hy
        split at hb
        · rename_i hk
          injection hb with hb; subst hb
          refine ⟨?_, guard_nil (by simp) (by simp), rfl, rfl⟩
          exact run_equalIn_bool' w 9999 t _ _ (tk_bool hk)
        · cases hb
      · rename_i xs ys
        have he := deq_ok (P := P) (Γ := Γ) (w := w) (d := 10000) hb hx hy (by omega)
        obtain ⟨us, rfl, _⟩ := R1.agg.1 hx
        obtain ⟨vs, rfl, _⟩ := R1.agg.1 hy
        refine ⟨he, ?_, rfl, rfl⟩
        have hok := deq_eqok hb
        exact run_eqGuard_agg w op t xo yo _ _ (eqok_of hok).1
      · split at hb
        · rename_i e hk
          have he : (Op.equalIn 10000 t u v).run P w = .ok b w := nilEq_ok (tk_ptr hk) hb hx hy
          refine ⟨he, ?_⟩
          unfold nilEq at hb
          split at hb
          · obtain rfl := R1.nilp.1 hx
            obtain rfl := R1.nilp.1 hy
            exact ⟨guard_nil (by simp) (by simp), rfl, rfl⟩
          · obtain rfl := R1.nilp.1 hx
            obtain ⟨_, rfl⟩ := R1.ptr.1 hy
            exact ⟨guard_nil (by simp) (by simp), rfl, rfl⟩
          · obtain rfl := R1.nilp.1 hx
            obtain ⟨_, _, _, rfl, _⟩ := R1.cpt.1 hy
            exact ⟨guard_nil (by simp) (by simp), rfl, rfl⟩
          · obtain ⟨_, rfl⟩ := R1.ptr.1 hx
            obtain rfl := R1.nilp.1 hy
            exact ⟨guard_nil (by simp) (by simp), rfl, rfl⟩
          · obtain ⟨_, _, _, rfl, _⟩ := R1.cpt.1 hx
            obtain rfl := R1.nilp.1 hy
            exact ⟨guard_nil (by simp) (by simp), rfl, rfl⟩
          · cases hb
        · cases hb
    split at h
    · obtain ⟨b, hb, rfl⟩ := Option.map_eq_some_iff.1 h
      obtain ⟨h1, h2, h3, h4⟩ := key b hb
      exact ⟨.bool b, plain h2 (by rw [h3]; simp [Op.equal, Op.maxDepth, h1]), R1.bool.2 rfl⟩
    · obtain ⟨b, hb, rfl⟩ := Option.map_eq_some_iff.1 h
      obtain ⟨h1, h2, h3, h4⟩ := key b hb
      exact ⟨.bool (!b), plain h2 (by rw [h4]; simp [Op.equal, Op.maxDepth, h1]), R1.bool.2 rfl⟩
    · cases h
theorem un_ok {op : UnOp} {x r : D} {u : Value} (hx : R1 Γ w x u) (h : evUn op x = some r) : ∃ z, (Op.unary op u).run P w = .ok z w ∧ R1 Γ w r z := by
  unfold evUn at h
  split at h
  · injection h with h; subst h
    rw [R1.int.1 hx]
    exact ⟨_, by simp only [Op.unary, Op.intArith]; rfl, R1.int.2 rfl⟩
  · injection h with h; subst h
    rw [R1.bool.1 hx]
    exact ⟨_, by simp only [Op.unary]; rfl, R1.bool.2 rfl⟩
  · cases h
theorem nilD_ok {x : D} {b : Bool} {u : Value} (hx : R1 Γ w x u) (h : nilD x = some b) : ∃ a n c, u = .slice a n c ∧ a.isNone = b := by
  unfold nilD at h
  split at h
  · injection h with h; subst h
    obtain ⟨a, c, sz, us, rfl, _, _, _, _, _, _, ha⟩ := R1.sl.1 hx
    obtain ⟨b, o, rfl, _⟩ := ha (by simp)
    exact ⟨_, _, _, rfl, rfl⟩
  · injection h with h; subst h
    obtain ⟨_, a, c, rfl, h1, _, _, h4, _⟩ := R1.ms.1 hx
    rcases h4 with h4 | rfl
    · omega
    · exact ⟨_, _, _, rfl, rfl⟩
  · rename_i b'
    injection h with h; subst h
    cases b' with
    | true => obtain ⟨c, rfl, _⟩ := (R1.atom_iff (d := .nsl true) rfl).1 hx; exact ⟨_, _, _, rfl, rfl⟩
    | false => obtain ⟨a, c, rfl, _⟩ := (R1.atom_iff (d := .nsl false) rfl).1 hx; exact ⟨_, _, _, rfl, rfl⟩
  · cases h
theorem eq_nil {t e : TypeId} (hu : P.underlying t = some (.slice e)) {p : Option Addr} {n c d : Nat} : (Op.equalIn (d + 1) t (.slice p n c) (.slice none 0 0)).run P w = .ok p.isNone w := by
  cases p <;> simp [Op.equalIn, run_underlying hu]
theorem nil_ok {op : BinOp} {t : TypeId} {a : Act} {yo : Operand} {xo : Operand} {x r : D} {u : Value} (hx : R1 Γ w x u) (hn : isNilS yo = true) (h : nilBin P op t x = some r) :
    ∃ z, (do eqGuard op t xo yo u (a.eval yo); binOp op t u (a.eval yo) : Sem Value).run P w = .ok z w ∧ R1 Γ w r z := by
  have hy : a.eval yo = .slice none 0 0 := by
    unfold isNilS at hn
    split at hn
    · rfl
    · cases hn
  rw [hy]
  unfold nilBin at h
  split at h
  · rename_i e hk
    have hu := fun p n c => eq_nil (w := w) (tk_sl hk) (p := p) (n := n) (c := c) (d := 9999)
    split at h
    · obtain ⟨b, hb, rfl⟩ := Option.map_eq_some_iff.1 h
      obtain ⟨p, n, c, rfl, rfl⟩ := nilD_ok hx hb
      have hg : (eqGuard .eql t xo yo (.slice p n c) (.slice none 0 0)).run P w = .ok () w := guard_nil (by simp) (by simp)
      refine ⟨.bool p.isNone, ?_, R1.bool.2 rfl⟩
      rw [Sem.run_bind, hg, Result.andThen_ok]
      simp [binOp, Op.equal, Op.maxDepth, hu]
    · obtain ⟨b, hb, rfl⟩ := Option.map_eq_some_iff.1 h
      obtain ⟨p, n, c, rfl, rfl⟩ := nilD_ok hx hb
      have hg : (eqGuard .neq t xo yo (.slice p n c) (.slice none 0 0)).run P w = .ok () w := guard_nil (by simp) (by simp)
      refine ⟨.bool (!p.isNone), ?_, R1.bool.2 rfl⟩
      rw [Sem.run_bind, hg, Result.andThen_ok]
      simp [binOp, Op.equal, Op.maxDepth, hu]
    · cases h
  · cases h
end
end Go.Proofs.Ytgibpomhiilehaa.Dv
