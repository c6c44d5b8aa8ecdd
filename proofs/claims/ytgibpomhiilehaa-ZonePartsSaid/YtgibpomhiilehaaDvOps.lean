/- Each operation of the evaluator is the machine's: reading. -/
import Derived.Test.YtgibpomhiilehaaDvRel
import Derived.Deep.AppendSrc
import Derived.Laws.MakeOwn
set_option linter.unusedVariables false
set_option linter.unusedSimpArgs false
namespace Go.Proofs.Ytgibpomhiilehaa.Dv
open Go

section
variable {P : Program} {Γ Γ' : Ctx} {w w' : World} {σ σ' : Store}

/-! ### types -/
theorem tk_some {t : TypeId} (h : (ti P t).k.known = true) : ∃ d, P.underlying t = some d := by
  simp only [ti] at h
  cases hu : P.underlying t with
  | none => rw [hu] at h; cases h
  | some d => exact ⟨d, rfl⟩
theorem tk_sl {t e : TypeId} (h : (ti P t).k = .sl e) : P.underlying t = some (.slice e) := by
  simp only [ti] at h
  cases hu : P.underlying t with
  | none => rw [hu] at h; cases h
  | some d => rw [hu] at h; cases d <;> simp [tkOf] at h; rw [h]
theorem tk_str {t : TypeId} (h : (ti P t).k = .str) : P.underlying t = some .string := by
  simp only [ti] at h
  cases hu : P.underlying t with
  | none => rw [hu] at h; cases h
  | some d => rw [hu] at h; cases d <;> simp [tkOf] at h; rfl
theorem tk_bool {t : TypeId} (h : (ti P t).k = .bool) : P.underlying t = some .bool := by
  simp only [ti] at h
  cases hu : P.underlying t with
  | none => rw [hu] at h; cases h
  | some d => rw [hu] at h; cases d <;> simp [tkOf] at h; rfl
theorem tk_int {t : TypeId} {k : IntKind} (h : (ti P t).k = .int k) : P.underlying t = some (.int k) := by
  simp only [ti] at h
  cases hu : P.underlying t with
  | none => rw [hu] at h; cases h
  | some d => rw [hu] at h; cases d <;> simp [tkOf] at h; rw [h]
theorem tk_ptr {t e : TypeId} (h : (ti P t).k = .ptr e) : P.underlying t = some (.pointer e) := by
  simp only [ti] at h
  cases hu : P.underlying t with
  | none => rw [hu] at h; cases h
  | some d => rw [hu] at h; cases d <;> simp [tkOf] at h; rw [h]
theorem tk_arr {t e : TypeId} {n : Nat} (h : (ti P t).k = .arr n e) : P.underlying t = some (.array n e) := by
  simp only [ti] at h
  cases hu : P.underlying t with
  | none => rw [hu] at h; cases h
  | some d => rw [hu] at h; cases d <;> simp [tkOf] at h; rw [h.1, h.2]
theorem tk_st {t : TypeId} {fs : List (Nat × TypeId)} (h : (ti P t).k = .st fs) : ∃ fields : Array Field, P.underlying t = some (.struct fields) ∧ fs = fields.toList.map fun f => (f.offset, f.type) := by
  simp only [ti] at h
  cases hu : P.underlying t with
  | none => rw [hu] at h; cases h
  | some d => rw [hu] at h; cases d <;> simp [tkOf] at h; exact ⟨_, rfl, h.symm⟩
theorem tk_agg {t : TypeId} {d : TypeDesc} (h : P.underlying t = some d) : (ti P t).k.isAgg = (match d with | .struct _ | .array _ _ => true | _ => false) := by
  simp only [ti, h]
  cases d <;> rfl
theorem info_of {t : TypeId} {d : TypeDesc} (h : P.underlying t = some d) : ∃ i, P.info? t = some i := by
  unfold Program.underlying at h
  cases hi : P.info? t with
  | none => rw [hi] at h; cases h
  | some i => exact ⟨i, rfl⟩
theorem ti_sz {t : TypeId} {i : TypeInfo} (h : P.info? t = some i) : (ti P t).sz = i.size := by simp [ti, Program.cellsOf, h]
theorem ti_bytes {t : TypeId} {i : TypeInfo} (h : P.info? t = some i) : (ti P t).bytes = i.bytes := by simp [ti, Program.bytesOf, h]
theorem info_of_sz {t : TypeId} (h : 0 < (ti P t).sz) : ∃ i, P.info? t = some i := by
  cases hi : P.info? t with
  | none => simp [ti, Program.cellsOf, hi] at h
  | some i => exact ⟨i, rfl⟩
theorem ofLeaf_R1 (v : Value) : R1 Γ w (ofLeaf v) v := by
  cases v with
  | bool b => exact R1.bool.2 rfl
  | int k n => exact R1.int.2 rfl
  | string s => exact R1.str.2 rfl
  | pointer a => cases a with
    | none => exact R1.nilp.2 rfl
    | some a => exact R1.any
  | nilFunc => exact R1.nilfn.2 rfl
  | slice a n c =>
    unfold ofLeaf
    split <;> try exact R1.any
    all_goals (rename_i heq; cases heq)
    exact R1.sl.2 ⟨none, 0, 1, [], rfl, rfl, Nat.le_refl _, Nat.zero_le _, fun _ => rfl, .nil _, Nat.one_pos, fun h => absurd rfl h⟩
  | map r => cases r with
    | none => exact (R1.atom_iff rfl).2 rfl
    | some a => exact R1.any
  | func fn first captured =>
    unfold ofLeaf
    split <;> try exact R1.any
    all_goals (rename_i heq; try cases heq)
    all_goals first
      | (split
         · rename_i h
           simp only [Bool.and_eq_true, Array.isEmpty_iff] at h
           obtain ⟨rfl, rfl⟩ := h
           exact R1.fn.2 ⟨[], [], rfl, .nil _, .nil _⟩
         · exact R1.any)
      | exact R1.any
  | tuple vs =>
    unfold ofLeaf
    simp only
    split
    · rename_i h
      simp only [Array.isEmpty_iff] at h
      subst h
      exact R1.undef.2 rfl
    · exact R1.any
  | _ => exact R1.any
theorem ofLeaf_list : ∀ vs : List Value, R Γ w none (vs.map ofLeaf) vs
  | [] => .nil _
  | v :: vs => R.cons (ofLeaf_R1 v) (ofLeaf_list vs)
theorem ofValue_R1 (v : Value) : R1 Γ w (ofValue v) v := by
  cases v with
  | agg cs =>
    unfold ofValue
    simp only
    split
    · rename_i h
      exact R1.agg.2 ⟨cs.toList, by simp, ofLeaf_list _, h⟩
    · exact R1.any
  | _ => simp only [ofValue]; exact ofLeaf_R1 _
theorem zero_of {t : TypeId} {i : TypeInfo} (h : P.info? t = some i) (he : (ti P t).zero.elem = true) : ∃ z, i.zero = some z ∧ (ti P t).zero = ofValue z := by
  simp only [ti, h, Option.bind_some] at he ⊢
  cases hz : i.zero with
  | none => rw [hz] at he; cases he
  | some z => exact ⟨z, rfl, rfl⟩

/-! ### slots -/
def Slots (Γ : Ctx) (w : World) (e : Env) (a : Act) : Prop := ∀ t, R1 Γ w (e t) (a.tmps.getD t Go.undef)
theorem Slots.opnd {e : Env} {a : Act} (h : Slots Γ w e a) (x : Operand) : R1 Γ w (opnd e x) (a.eval x) := by
  cases x with
  | tmp t => exact h t
  | const v => exact ofValue_R1 v
  | global g => exact R1.any
  | func f => exact R1.fn.2 ⟨[], [], rfl, .nil _, .nil _⟩
theorem Slots.opnds {e : Env} {a : Act} (h : Slots Γ w e a) : ∀ xs : List Operand, R Γ w none (xs.map (Dv.opnd e)) (xs.map a.eval)
  | [] => .nil _
  | x :: xs => R.cons (h.opnd x) (h.opnds xs)

/-! ### what an operation comes to -/
def OpOk (Γ : Ctx) (σ : Store) (w : World) (r : Result Next) (v : D) (σ' : Store) (aid : Option Nat) : Prop :=
  ∃ nx w' Γ' u, r = .ok nx w' ∧ (nx = .value u ∨ (nx = .skip ∧ u = Go.undef)) ∧ R1 Γ' w' v u ∧ SR Γ' σ' w' ∧ Tr Γ σ w Γ' σ' w' ∧ ∀ id, Γ'.A id → Γ.A id ∨ some id = aid
theorem OpOk.same {r : Result Next} {v : D} {u : Value} {aid : Option Nat} (hs : SR Γ σ w) (hr : r = .ok (.value u) w) (h : R1 Γ w v u) : OpOk Γ σ w r v σ aid :=
  ⟨_, w, Γ, u, hr, .inl rfl, h, hs, .refl _ _ _, fun _ h => .inl h⟩
/-- The same, of an operation that yields a value. -/
def ValOk (Γ : Ctx) (σ : Store) (w : World) (r : Result Value) (v : D) (σ' : Store) (aid : Option Nat) : Prop :=
  ∃ w' Γ' u, r = .ok u w' ∧ R1 Γ' w' v u ∧ SR Γ' σ' w' ∧ Tr Γ σ w Γ' σ' w' ∧ ∀ id, Γ'.A id → Γ.A id ∨ some id = aid
theorem ValOk.same {r : Result Value} {v : D} {u : Value} {aid : Option Nat} (hs : SR Γ σ w) (hr : r = .ok u w) (h : R1 Γ w v u) : ValOk Γ σ w r v σ aid :=
  ⟨w, Γ, u, hr, h, hs, .refl _ _ _, fun _ h => .inl h⟩
theorem ValOk.op {s : Sem Value} {v : D} {aid : Option Nat} (h : ValOk Γ σ w (s.run P w) v σ' aid) : OpOk Γ σ w ((do pure (Next.value (← s)) : Sem Next).run P w) v σ' aid := by
  obtain ⟨w', Γ', u, hr, h1, h2, h3, h4⟩ := h
  exact ⟨_, w', Γ', u, by simp [hr], .inl rfl, h1, h2, h3, h4⟩

/-! ### reading a part of an element -/
theorem run_sizeOf {t : TypeId} {i : TypeInfo} (h : P.info? t = some i) (w : World) : (sizeOf t).run P w = .ok i.size w := by simp [sizeOf, typeInfo, h]
theorem run_isAgg {t : TypeId} (h : (ti P t).k.known = true) (w : World) : (isAgg t).run P w = .ok (ti P t).k.isAgg w := by
  obtain ⟨d, hd⟩ := tk_some h
  rw [tk_agg hd]
  unfold isAgg
  rw [Sem.run_bind, run_underlying hd w]
  cases d <;> rfl
/-- Where the cells of an element lie, a part of it reads as the evaluator says. -/
theorem sub_run {t : TypeId} {x v : D} {j b o : Nat} {us : List Value} (hsub : sub (ti P t) x j = some v) (he : x.elem = true) (h : R Γ w none x.cells us)
    (hc : ∀ k u, us[k]? = some u → w.cell? ⟨b, o + k, none⟩ = some u) :
    ∃ u, (loadVar t ⟨b, o + j, none⟩).run P w = .ok u w ∧ R1 Γ w v u := by
  have hlen := h.length
  have hleaf := elem_cells he
  unfold sub at hsub
  split at hsub
  · cases hsub
  rename_i hk
  have hk : (ti P t).k.known = true := by cases hq : (ti P t).k.known <;> simp_all
  obtain ⟨d, hd⟩ := tk_some hk
  obtain ⟨i, hi⟩ := info_of hd
  have hsz := ti_sz hi
  have hag := run_isAgg hk w
  have loads : ∀ (q : Nat) (vs : List Value), (∀ k u, vs[k]? = some u → us[q + k]? = some u) → (loadCells ⟨b, o + q, none⟩ vs.length).run P w = .ok vs.toArray w := fun q vs hv =>
    run_loadCells_list (P := P) w ⟨b, o + q, none⟩ vs fun k u hu => by
      rw [Addr.add_lit, Nat.add_assoc]
      exact hc _ _ (hv k u hu)
  split at hsub
  · rename_i h0
    obtain ⟨rfl, ha, hl⟩ := h0
    injection hsub with hsub
    subst hsub
    cases hA : (ti P t).k.isAgg with
    | true =>
      rw [hA] at ha
      cases x with
      | agg ds =>
        refine ⟨.agg us.toArray, ?_, R1.agg.2 ⟨us, rfl, h, hleaf⟩⟩
        have hl2 : us.length = i.size := by rw [← hsz, ← hl, ← hlen]
        have := loads 0 us (fun k u hu => by simpa using hu)
        rw [hl2, Nat.add_zero] at this
        simp [loadVar, hag, hA, run_sizeOf hi, this]
      | _ => cases ha
    | false =>
      rw [hA] at ha
      have hx : x.cells = [x] := by cases x <;> first | rfl | cases ha
      rw [hx] at h
      obtain ⟨u, vs, rfl, h1, h2⟩ := h.cons_inv
      refine ⟨u, ?_, h1⟩
      have := hc 0 u rfl
      rw [Nat.add_zero] at this
      simp [loadVar, hag, hA, this]
  · split at hsub
    · rename_i hA
      split at hsub
      · rename_i hle
        injection hsub with hsub
        subst hsub
        have hl2 : ((us.drop j).take (ti P t).sz).length = i.size := by rw [List.length_take, List.length_drop, ← hsz, ← hlen]; omega
        refine ⟨.agg ((us.drop j).take (ti P t).sz).toArray, ?_, R1.agg.2 ⟨_, rfl, (h.drop j).take _, ?_⟩⟩
        · have := loads j ((us.drop j).take (ti P t).sz) (fun k u hu => by
            rw [List.getElem?_take] at hu
            split at hu
            · simpa [List.getElem?_drop] using hu
            · cases hu)
          rw [hl2] at this
          simp [loadVar, hag, hA, run_sizeOf hi, this]
        · simp only [List.all_eq_true] at hleaf ⊢
          exact fun d hd => hleaf d (List.mem_of_mem_drop (List.mem_of_mem_take hd))
      · cases hsub
    · rename_i hA
      have hA : (ti P t).k.isAgg = false := by simpa using hA
      split at hsub
      · obtain ⟨u, hu, h1⟩ := h.get hsub
        have := hc j u hu
        exact ⟨u, by simp [loadVar, hag, hA, this], h1⟩
      · cases hsub
/-- The cells of an element of an object. -/
theorem row_cells {id esz : Nat} {xs : List D} (h : RowR Γ w id esz xs) {i : Nat} {x : D} (hx : xs[i]? = some x) :
    x.elem = true ∧ x.cells.length = esz ∧ ∃ us, R Γ w none x.cells us ∧ ∀ k u, us[k]? = some u → w.cell? ⟨Γ.ρ id, i * Γ.ez id + k, none⟩ = some u := by
  obtain ⟨he, hz, c, e, us, rest, hh, hb, hl, ⟨hr, _⟩⟩ := h
  obtain ⟨h1, h2, h3⟩ := hr.getE hx
  refine ⟨h1, h2, _, h3, fun k u hu => ?_⟩
  rw [cell_of_row w _ _ c e (0, 0) hh]
  rw [List.getElem?_take] at hu
  split at hu
  · rw [List.getElem?_drop] at hu
    have hk : (us ++ rest)[i * esz + k]? = some u := by rw [List.getElem?_append_left (List.getElem?_eq_some_iff.1 hu).1]; exact hu
    rw [← hl] at hk
    rw [← he]
    simpa using hk
  · cases hu
theorem load_ok {t : TypeId} {d : D} {u : Value} {r : D × Foot} (hs : SR Γ σ w) (hd : R1 Γ w d u) (h : evLoad (ti P t) d σ = some r) :
    ∃ v, (Instr.loadAt t u).run P w = .ok v w ∧ R1 Γ w r.1 v := by
  unfold evLoad at h
  split at h
  · rename_i id i j
    split at h
    · rename_i st esz xs ho
      split at h
      · rename_i x hx
        obtain ⟨hA, rfl⟩ := R1.ptr.1 hd
        obtain ⟨v, hv, rfl⟩ := Option.map_eq_some_iff.1 h
        obtain ⟨he, _, us, hu, hc⟩ := row_cells (hs.row _ _ _ _ ho).1 hx
        obtain ⟨z, hz, hr⟩ := sub_run hv he hu hc
        exact ⟨z, by simpa [Instr.loadAt, Instr.sureAddr, adr] using hz, hr⟩
      · cases h
    · cases h
  · rename_i x j
    obtain ⟨us, b, o, rfl, hp, he, hu, hC, hc⟩ := R1.cpt.1 hd
    obtain ⟨v, hv, rfl⟩ := Option.map_eq_some_iff.1 h
    obtain ⟨z, hz, hr⟩ := sub_run hv he hu hc
    exact ⟨z, by simpa [Instr.loadAt, Instr.sureAddr] using hz, hr⟩
  · cases h
end
end Go.Proofs.Ytgibpomhiilehaa.Dv
