/- One operation: what the evaluator says of it holds of the machine. -/
import Derived.Test.YtgibpomhiilehaaDvOp
set_option linter.unusedVariables false
set_option linter.unusedSimpArgs false
namespace Go.Proofs.Ytgibpomhiilehaa.Dv
open Go

section
variable {P : Program} {Γ Γ' : Ctx} {w w' : World} {σ σ' : Store}

theorem ValOk.of_run {s : Sem Value} {v : D} {aid : Option Nat} (hs : SR Γ σ w) (h : ∃ z, s.run P w = .ok z w ∧ R1 Γ w v z) : ValOk Γ σ w (s.run P w) v σ aid := by
  obtain ⟨z, hz, hr⟩ := h
  exact .same hs hz hr
theorem OpOk.weaken {r : Result Next} {v : D} (h : OpOk Γ σ w r v σ' none) (aid : Option Nat) : OpOk Γ σ w r v σ' aid := by
  obtain ⟨nx, w', Γ', u, h1, h2, h3, h4, h5, h6⟩ := h
  exact ⟨nx, w', Γ', u, h1, h2, h3, h4, h5, fun id hid => (h6 id hid).elim .inl fun h => by cases h⟩
theorem parts_toArray (ps : Array (Nat × Operand)) (ρ : Operand → Value) : (ps.map fun (i, x) => (i, ρ x)) = (ps.toList.map fun p => (p.1, ρ p.2)).toArray := by
  apply Array.ext'
  simp
theorem slots_parts {e : Env} {a : Act} (h : Slots Γ w e a) (ps : List (Nat × Operand)) : (ps.map fun p => (p.1, opnd e p.2)).map (·.1) = (ps.map fun p => (p.1, a.eval p.2)).map (·.1) ∧
    R Γ w none ((ps.map fun p => (p.1, opnd e p.2)).map (·.2)) ((ps.map fun p => (p.1, a.eval p.2)).map (·.2)) := by
  refine ⟨by simp [Function.comp_def], ?_⟩
  have := h.opnds (ps.map (·.2))
  simpa [Function.comp_def] using this
theorem slots_opt {e : Env} {a : Act} (h : Slots Γ w e a) (x : Option Operand) : OptR Γ w (x.map (opnd e)) (x.map a.eval) := by
  cases x with
  | none => trivial
  | some x => exact h.opnd x
theorem slots_arr {e : Env} {a : Act} (h : Slots Γ w e a) (xs : Array Operand) : R Γ w none (xs.toList.map (opnd e)) (xs.map a.eval).toList := by
  have := h.opnds xs.toList
  simpa using this
theorem arr_of_list {xs : Array Value} {us : List Value} (h : xs.toList = us) : xs = us.toArray := by rw [← h]
theorem args1 {x : D} {args : Array Value} (hr : R Γ w none [x] args.toList) : ∃ u, args = #[u] ∧ R1 Γ w x u := by
  obtain ⟨u, vs, hargs, hu, hvs⟩ := hr.cons_inv
  rw [hvs.nil_inv] at hargs
  exact ⟨u, arr_of_list hargs, hu⟩
theorem args2 {x y : D} {args : Array Value} (hr : R Γ w none [x, y] args.toList) : ∃ u v, args = #[u, v] ∧ R1 Γ w x u ∧ R1 Γ w y v := by
  obtain ⟨u, vs, hargs, hu, hvs⟩ := hr.cons_inv
  obtain ⟨v, vs', rfl, hv, hvs'⟩ := hvs.cons_inv
  rw [hvs'.nil_inv] at hargs
  exact ⟨u, v, arr_of_list hargs, hu, hv⟩
theorem builtin_ok (hs : SR Γ σ w) {b : Builtin} {ats : Array TypeId} {ty : TypeId} {cs : Array Bool} {ds : List D} {args : Array Value} {aid : Nat} {r : D × Store × Foot} (hr : R Γ w none ds args.toList)
    (hal : b = .append → ¬ Γ.A aid ∧ aid < σ.length) (h : evBuiltin P b ats.toList ds aid σ = some r) : OpOk Γ σ w ((builtin b ats ty cs args).run P w) r.1 r.2.1 (if b = .append then some aid else none) := by
  generalize hats : ats.toList = tl at h
  have hat : ats = tl.toArray := by rw [← hats]
  subst hat
  clear hats
  unfold evBuiltin at h
  split at h
  · rename_i t x
    refine OpOk.weaken ?_ _
    obtain ⟨u, rfl, hu⟩ := args1 hr
    obtain ⟨z, hz, hrr, hσ⟩ := len_ok (P := P) (Γ := Γ) (w := w) (σ := σ) (t := t) (x := x) (r := r) (aid := aid) (ty := ty) hu h
    rw [hσ]
    exact ValOk.op (.of_run hs ⟨z, hz, hrr⟩)
  · rename_i t x
    refine OpOk.weaken ?_ _
    obtain ⟨u, rfl, hu⟩ := args1 hr
    obtain ⟨z, hz, hrr, hσ⟩ := cap_ok (P := P) (Γ := Γ) (w := w) (σ := σ) (t := t) (x := x) (r := r) (aid := aid) (ty := ty) hu h
    rw [hσ]
    exact ValOk.op (.of_run hs ⟨z, hz, hrr⟩)
  · rename_i t t2 s x
    split at h
    · rename_i e2 hk2
      obtain ⟨u, v, rfl, hu, hv⟩ := args2 hr
      obtain ⟨hA, hl⟩ := hal rfl
      rw [if_pos rfl]
      exact ValOk.op (append_ok hs hA hl hk2 hu hv h)
    · rename_i kn hk2
      split at h
      · obtain ⟨u, v, rfl, hu, hv⟩ := args2 hr
        obtain ⟨hA, hl⟩ := hal rfl
        rw [if_pos rfl]
        exact ValOk.op (appendZ_ok hs hA hl hk2 hu hv h)
      · cases h
    · cases h
  · rename_i t t2 s x
    refine OpOk.weaken ?_ _
    obtain ⟨u, v, rfl, hu, hv⟩ := args2 hr
    exact ValOk.op (copy_ok hs hu hv h)
  · rename_i t s
    refine OpOk.weaken ?_ _
    obtain ⟨u, rfl, hu⟩ := args1 hr
    exact ValOk.op (clear_ok hs hu h)
  · rename_i xs
    refine OpOk.weaken ?_ _
    obtain ⟨d, hd, rfl⟩ := Option.map_eq_some_iff.1 h
    obtain ⟨x, rest, z, hargs, hz, hrr⟩ := minmax_ok (P := P) (w := w) (g := Builtin.max2) (fun a b => max2_run a b) hr hd
    refine ValOk.op (.of_run hs ⟨z, ?_, hrr⟩)
    unfold Builtin.max_
    rw [hargs]
    exact hz
  · rename_i xs
    refine OpOk.weaken ?_ _
    obtain ⟨d, hd, rfl⟩ := Option.map_eq_some_iff.1 h
    obtain ⟨x, rest, z, hargs, hz, hrr⟩ := minmax_ok (P := P) (w := w) (g := Builtin.min2) (fun a b => min2_run a b) hr hd
    refine ValOk.op (.of_run hs ⟨z, ?_, hrr⟩)
    unfold Builtin.min_
    rw [hargs]
    exact hz
  · cases h
theorem evOp_ok (hs : SR Γ σ w) {o : Oper} {e : Env} {a : Act} {aid : Nat} {r : D × Store × Foot} (hsl : Slots Γ w e a) (hal : allocs o = true → ¬ Γ.A aid ∧ aid < σ.length) (h : evOp P o e aid σ = some r) :
    OpOk Γ σ w ((execOp a.eval o).run P w) r.1 r.2.1 (if allocs o = true then some aid else none) := by
  have val : ∀ {s : Sem Value} {v : D}, (∃ z, s.run P w = .ok z w ∧ R1 Γ w v z) → OpOk Γ σ w ((do pure (Next.value (← s)) : Sem Next).run P w) v σ (if allocs o = true then some aid else none) := fun h =>
    OpOk.weaken (ValOk.op (.of_run hs h)) _
  unfold evOp at h
  unfold execOp
  split at h
  · rename_i x heq
    injection h with h; subst h
    rw [heq]
    exact OpOk.same hs rfl (hsl.opnd x)
  · rename_i x heq
    injection h with h; subst h
    rw [heq]
    exact OpOk.same hs rfl (hsl.opnd x)
  · rename_i c x y heq
    rw [heq]
    split at h
    · rename_i t ht
      injection h with h; subst h
      have hc := hsl.opnd c
      rw [ht] at hc
      refine OpOk.same hs (u := if t then a.eval x else a.eval y) (by simp [R1.bool.1 hc, asBool]) ?_
      cases t
      · exact hsl.opnd y
      · exact hsl.opnd x
    · cases h
  · rename_i t heq
    have hall : allocs o = true := by simp [allocs, heq]
    rw [heq]
    simp only at h
    split at h
    · rename_i hc
      injection h with h; subst h
      obtain ⟨hA, hl⟩ := hal hall
      rw [if_pos hall]
      exact ValOk.op (alloc_ok hs hA hl hc.1 hc.2.1 hc.2.2)
    · cases h
  · rename_i t x heq
    have hall : allocs o = true := by simp [allocs, heq]
    rw [heq]
    simp only at h
    split at h
    · rename_i hc
      injection h with h; subst h
      obtain ⟨hA, hl⟩ := hal hall
      rw [if_pos hall]
      exact ValOk.op (box_ok hs hA hl (hsl.opnd x) hc.1 hc.2)
    · cases h
  · rename_i t ps heq
    rw [heq]
    obtain ⟨d, hd, rfl⟩ := Option.map_eq_some_iff.1 h
    obtain ⟨h1, h2⟩ := slots_parts hsl ps.toList
    have hb := build_ok h1 h2 hd
    rw [← parts_toArray] at hb
    exact val hb
  · rename_i t n ps heq
    have hall : allocs o = true := by simp [allocs, heq]
    rw [heq]
    obtain ⟨hA, hl⟩ := hal hall
    rw [if_pos hall]
    obtain ⟨h1, h2⟩ := slots_parts hsl ps.toList
    have hb := buildSlice_ok hs hA hl h1 h2 h
    rw [← parts_toArray] at hb
    exact ValOk.op hb
  · rename_i t x heq
    rw [heq]
    obtain ⟨q, hq, rfl⟩ := Option.map_eq_some_iff.1 h
    exact val (load_ok hs (hsl.opnd x) hq)
  · rename_i t x y heq
    rw [heq]
    obtain ⟨q, hq, rfl⟩ := Option.map_eq_some_iff.1 h
    obtain ⟨w1, h1, h2, h3⟩ := store_ok (P := P) hs (hsl.opnd x) (hsl.opnd y) hq
    exact ⟨.skip, w1, Γ, Go.undef, by simp [h1], .inr ⟨rfl, rfl⟩, R1.undef.2 rfl, h2, h3, fun id hid => .inl hid⟩
  · rename_i x heq
    rw [heq]
    have hx := hsl.opnd x
    split at h
    · rename_i id i j hd
      injection h with h; subst h
      rw [hd] at hx
      obtain ⟨hA, hv⟩ := R1.ptr.1 hx
      refine OpOk.same hs (u := a.eval x) ?_ hx
      simp [hv]
    · rename_i y j hd
      injection h with h; subst h
      rw [hd] at hx
      obtain ⟨us, b, oo, hv, _⟩ := R1.cpt.1 hx
      refine OpOk.same hs (u := a.eval x) ?_ hx
      simp [hv]
    · rename_i f as bs hd
      injection h with h; subst h
      rw [hd] at hx
      obtain ⟨us, ws, hv, _⟩ := R1.fn.1 hx
      refine OpOk.same hs (u := a.eval x) ?_ hx
      simp [hv]
    · cases h
  · rename_i op t x y yt heq
    rw [heq]
    obtain ⟨d, hd, rfl⟩ := Option.map_eq_some_iff.1 h
    unfold evBinO at hd
    split at hd
    · rename_i hn
      exact val (nil_ok (hsl.opnd x) hn hd)
    · exact val (bin_ok (hsl.opnd x) (hsl.opnd y) hd)
  · rename_i op t x heq
    rw [heq]
    obtain ⟨d, hd, rfl⟩ := Option.map_eq_some_iff.1 h
    exact val (un_ok (hsl.opnd x) hd)
  · rename_i s t x heq
    rw [heq]
    obtain ⟨q, hq, rfl⟩ := Option.map_eq_some_iff.1 h
    exact val (conv_ok hs (hsl.opnd x) hq)
  · rename_i f first caps heq
    rw [heq]
    injection h with h; subst h
    refine val ⟨_, rfl, R1.fn.2 ⟨(first.map a.eval).toList, (caps.map a.eval).toList, by simp only [Array.toArray_toList], slots_arr hsl first, slots_arr hsl caps⟩⟩
  · rename_i t l c heq
    have hall : allocs o = true := by simp [allocs, heq]
    rw [heq]
    obtain ⟨hA, hl⟩ := hal hall
    rw [if_pos hall]
    exact ValOk.op (makeSlice_ok hs hA hl (hsl.opnd l) (hsl.opnd c) h)
  · rename_i t x lo hi mx heq
    rw [heq]
    obtain ⟨q, hq, rfl⟩ := Option.map_eq_some_iff.1 h
    exact val (slice_ok hs (hsl.opnd x) (slots_opt hsl lo) (slots_opt hsl hi) (slots_opt hsl mx) hq)
  · rename_i s x f heq
    rw [heq]
    obtain ⟨d, hd, rfl⟩ := Option.map_eq_some_iff.1 h
    exact val (fieldAddr_ok (hsl.opnd x) hd)
  · rename_i t x f heq
    rw [heq]
    obtain ⟨d, hd, rfl⟩ := Option.map_eq_some_iff.1 h
    exact val (field_ok (hsl.opnd x) hd)
  · rename_i t x ix heq
    rw [heq]
    obtain ⟨q, hq, rfl⟩ := Option.map_eq_some_iff.1 h
    exact val (indexAddr_ok hs (hsl.opnd x) (hsl.opnd ix) hq)
  · rename_i t x ix heq
    rw [heq]
    obtain ⟨d, hd, rfl⟩ := Option.map_eq_some_iff.1 h
    exact val (index_ok (hsl.opnd x) (hsl.opnd ix) hd)
  · rename_i x ix heq
    rw [heq]
    have hx := hsl.opnd x
    split at h
    · rename_i ds hd
      rw [hd] at hx
      obtain ⟨us, hv, hr⟩ := R1.tup.1 hx
      split at h
      · rename_i d hdd
        injection h with h; subst h
        obtain ⟨u, hu, hru⟩ := hr.get hdd
        exact val ⟨u, by simp [Instr.extract, hv, hu], hru⟩
      · cases h
    · cases h
  · rename_i c heq
    rw [heq]
    split at h
    · rename_i b hb
      have hc := slots_arr hsl c.args
      have hbo : ∀ cs, OpOk Γ σ w ((builtin b c.argTypes o.type cs (c.args.map a.eval)).run P w) r.1 r.2.1 (if b = .append then some aid else none) := fun cs => builtin_ok (P := P) (ty := o.type) (cs := cs) hs hc (b := b) (ats := c.argTypes) (aid := aid) (fun hb' => hal (by subst hb'; obtain ⟨cc, ca, ct⟩ := c; simp only at hb; simp [allocs, heq, hb])) h
      have he : (if allocs o = true then some aid else none) = (if b = .append then some aid else none) := by
        obtain ⟨cc, ca, ct⟩ := c
        simp only at hb
        subst hb
        cases b <;> simp [allocs, heq]
      rw [he]
      simp only [resolve, hb, Sem.run_bind, Sem.run_pure, Result.andThen_ok, invoke]
      exact hbo _
    · cases h
  · cases h
end
end Go.Proofs.Ytgibpomhiilehaa.Dv
