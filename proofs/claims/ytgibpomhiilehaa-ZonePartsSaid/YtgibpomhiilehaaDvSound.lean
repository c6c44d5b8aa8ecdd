/- The evaluator is sound for the machine. -/
import Derived.Test.YtgibpomhiilehaaDvCall
set_option linter.unusedVariables false
set_option linter.unusedSimpArgs false
namespace Go.Proofs.Ytgibpomhiilehaa.Dv
open Go

section
variable {P : Program} {M : Modes} {N : Nat} {Γ Γ' : Ctx} {w w' : World} {σ σ' : Store}

/-- What a call that writes nothing old has come to. -/
structure Behind (C0 : Nat → Prop) (w : World) (C' : Nat → Prop) (w' : World) : Prop where
  cin : ∀ b, C' b → (C0 b ∨ w.heap.size ≤ b) ∧ b < w'.heap.size
  cold : ∀ b, C0 b → C' b
  kept : ∀ b, b < w.heap.size → w'.heap[b]? = w.heap[b]?
  os : w'.os = w.os
  tape : w'.tape = w.tape
  output : w'.output = w.output
  size : w.heap.size ≤ w'.heap.size
theorem pure_call {run : CallF} (hrun : CallOk P run) {f : FuncId} {args : List D} {r r' : D} {τ : Store} {Γ0 : Ctx} {σ0 : Store} {base : Nat} {vargs : Array Value} (hs0 : SR Γ0 σ0 w) (hno : ∀ b, ¬ Own Γ0 σ0 b) (hargs : R Γ0 w none args vargs.toList)
    (hr : run f args σ0 = some (r, τ)) (hf : frz base τ r = some r') :
    Does P f vargs w fun x w' => ∃ v C', x = .returned v ∧ DataR C' w' r' v ∧ Behind Γ0.C w C' w' := by
  refine (hrun _ _ _ _ _ Γ0 w vargs hr hs0 hargs).mono fun x w' hp => ?_
  obtain ⟨v, Γ', rfl, h1, h2, h3⟩ := hp
  have htr := h3.tr
  refine ⟨v, fun b => Γ'.C b ∨ (w.heap.size ≤ b ∧ b < w'.heap.size), rfl, ?_, ⟨fun b hb => ?_, fun b hb => .inl (htr.agree.C b hb), fun b hb => htr.kept b hb (hno b), htr.os, htr.tape, htr.output, htr.size⟩⟩
  · refine frz_ok (Γ' := { Γ' with C := fun b => Γ'.C b ∨ (w.heap.size ≤ b ∧ b < w'.heap.size) }) h2 ⟨fun b hb => .inl hb, fun _ h => h, fun _ _ => rfl, fun _ _ => rfl, fun _ _ => rfl⟩ h1 hf ?_
    intro id st e xs hst ho
    obtain ⟨⟨_, _, c, _, _, _, hh, _⟩, _, hcst⟩ := h2.row _ _ _ _ ho
    have hlt := (Array.getElem?_eq_some_iff.1 hh).1
    cases st with
    | own =>
      rcases htr.own _ ⟨id, e, xs, ho, rfl⟩ with h | h
      · exact absurd h (hno _)
      · exact .inr ⟨h, hlt⟩
    | cst => exact .inl (hcst rfl)
    | shut => exact absurd rfl hst
  · rcases hb with hb | hb
    · refine ⟨?_, h2.old b hb⟩
      rcases htr.cnew b hb with h | h | h
      · exact .inl h
      · exact .inr h
      · exact absurd h (hno _)
    · exact ⟨.inr hb.1, hb.2⟩
theorem Behind.sameC {C0 C' : Nat → Prop} (h : Behind C0 w C' w') (hs : SR Γ σ w) : SameC Γ w w' := fun b hb => h.kept b (hs.old b hb)
theorem row_keep {C0 C' : Nat → Prop} (h : Behind C0 w C' w') (hs : SR Γ σ w) (ha : Agree Γ Γ') {id : Nat} {st : St} {esz : Nat} {xs : List D} (ho : σ.obj id = some (.row st esz xs)) : RowR Γ' w' id esz xs ∧ Γ.ρ id < w.heap.size ∧ Γ'.ρ id = Γ.ρ id := by
  obtain ⟨⟨h1, h2, c, e, us, rest, h3, h4, h5, h6⟩, _⟩ := hs.row _ _ _ _ ho
  have hlt := (Array.getElem?_eq_some_iff.1 h3).1
  have hA := hs.live _ _ ho
  refine ⟨⟨by rw [ha.ez id hA]; exact h1, h2, c, e, us, rest, ?_, by rw [ha.bs id hA]; exact h4, h5, h6.mono ha (h.sameC hs)⟩, hlt, ha.ρ id hA⟩
  rw [ha.ρ id hA, h.kept _ hlt]; exact h3
theorem back_flat {C0 C' : Nat → Prop} {r : D} {v : Value} (hs : SR Γ σ w) (hb : Behind C0 w C' w') (hd : DataR C' w' r v) (hf : r.flat = true) : Post Γ σ w r σ (.returned v) w' := by
  refine ⟨v, Γ, rfl, ?_, ?_, ⟨⟨.refl _, fun b hb => .inl hb, fun b hb => .inl hb, fun b h _ => hb.kept b h, hb.os, hb.tape, hb.output, hb.size⟩, Nat.le_refl _, fun _ h => .inl h⟩⟩
  · exact flat_free hf (hd { Γ with C := C' } fun _ h => h)
  · exact ⟨fun id st esz xs ho => ⟨(row_keep hb hs (.refl _) ho).1, (hs.row _ _ _ _ ho).2⟩, hs.nomap, hs.inj, hs.live, fun b h => Nat.lt_of_lt_of_le (hs.old b h) hb.size, hs.below⟩
theorem seal_row {o : Ob} {st : St} {e : Nat} {xs : List D} (h : sealOb o = .row st e xs) : ∃ st', o = .row st' e xs ∧ st ≠ .own ∧ (st = .cst → st' = .own ∨ st' = .cst) := by
  cases o with
  | row st' e' xs' => cases st' <;> (simp only [sealOb] at h; injection h with h1 h2 h3; subst h1 h2 h3; exact ⟨_, rfl, by simp, by simp⟩)
  | map => simp [sealOb] at h
theorem back_sealed {lent : List Nat} {C0 C' : Nat → Prop} {r : D} {v : Value} (hs : SR Γ σ w) (hl : ∀ id ∈ lent, Rows1 σ id) (hC : ∀ b, C0 b ↔ Γ.C b ∨ ∃ id ∈ lent, Γ.ρ id = b) (hb : Behind C0 w C' w') (hd : DataR C' w' r v)
    (hmay : ∀ id ∈ lent, σ.mayseal id = true) : Post Γ σ w r (σ.sealed lent) (.returned v) w' := by
  have hag : Agree Γ { Γ with C := C' } := ⟨fun b h => hb.cold b ((hC b).2 (.inl h)), fun _ h => h, fun _ _ => rfl, fun _ _ => rfl, fun _ _ => rfl⟩
  have hob : ∀ {id : Nat} {o : Ob}, (σ.sealed lent).obj id = some o → ∃ o', σ.obj id = some o' ∧ ((id ∈ lent ∧ sealOb o' = o) ∨ (id ∉ lent ∧ o' = o)) := by
    intro id o h
    rw [sealed_obj] at h
    split at h
    · rename_i hm
      obtain ⟨o', ho, he⟩ := Option.map_eq_some_iff.1 h
      exact ⟨o', ho, .inl ⟨hm, he⟩⟩
    · rename_i hm
      exact ⟨o, h, .inr ⟨hm, rfl⟩⟩
  have hown : ∀ {id : Nat} {e : Nat} {xs : List D}, (σ.sealed lent).obj id = some (.row .own e xs) → σ.obj id = some (.row .own e xs) ∧ id ∉ lent := by
    intro id e xs h
    obtain ⟨o', ho, h | h⟩ := hob h
    · obtain ⟨st', _, h2, _⟩ := seal_row h.2
      exact absurd rfl h2
    · rw [h.2] at ho; exact ⟨ho, h.1⟩
  refine ⟨v, { Γ with C := C' }, rfl, hd _ fun _ h => h, ⟨fun id st esz xs h => ?_, fun id st kvs h => ?_, fun id id' o o' h h' => ?_, fun id o h => ?_, fun b h => (hb.cin b h).2, fun id h => ?_⟩, ⟨⟨hag, fun b h => ?_, fun b h => .inl ?_, fun b h _ => hb.kept b h, hb.os, hb.tape, hb.output, hb.size⟩, ?_, fun _ h => .inl h⟩⟩
  · obtain ⟨o', ho, hcase⟩ := hob h
    have hrow : ∃ st', o' = .row st' esz xs := by
      rcases hcase with hc | hc
      · obtain ⟨st', h1, _⟩ := seal_row hc.2; exact ⟨st', h1⟩
      · exact ⟨st, hc.2⟩
    obtain ⟨st', rfl⟩ := hrow
    obtain ⟨k1, k2, k3⟩ := row_keep hb hs hag ho
    refine ⟨k1, ?_, ?_⟩
    · rintro rfl hcc
      obtain ⟨ho2, hnm⟩ := hown h
      rcases (hb.cin _ hcc).1 with h0 | h0
      · rcases (hC _).1 h0 with h1 | ⟨id', hid', he⟩
        · exact (hs.row _ _ _ _ ho2).2.1 rfl h1
        · obtain ⟨st2, e2, xs2, ho3⟩ := hl id' hid'
          have := hs.inj _ _ _ _ ho3 ho2 he
          exact hnm (this ▸ hid')
      · rw [k3] at h0; omega
    · rintro rfl
      refine hb.cold _ ((hC _).2 ?_)
      rcases hcase with hc | hc
      · exact .inr ⟨id, hc.1, rfl⟩
      · have := hc.2
        injection this with h1 _ _
        exact .inl ((hs.row _ _ _ _ ho).2.2 h1)
  · obtain ⟨o', ho, hcase⟩ := hob h
    rcases hcase with hc | hc
    · cases o' with
      | row st' e xs => cases st' <;> simp [sealOb] at hc
      | map st' kvs' => exact hs.nomap _ _ _ ho
    · rw [hc.2] at ho; exact hs.nomap _ _ _ ho
  · obtain ⟨p, hp, _⟩ := hob h
    obtain ⟨q, hq, _⟩ := hob h'
    exact hs.inj _ _ _ _ hp hq
  · obtain ⟨p, hp, _⟩ := hob h
    exact hs.live _ _ hp
  · rw [sealed_length]; exact hs.below id h
  · rcases (hb.cin b h).1 with h0 | h0
    · rcases (hC b).1 h0 with h1 | ⟨id, hid, rfl⟩
      · exact .inl h1
      · have hm := hmay id hid
        unfold Store.mayseal at hm
        split at hm
        · rename_i ho; exact .inr (.inr ⟨_, _, _, ho, rfl⟩)
        · rename_i ho; exact .inl ((hs.row _ _ _ _ ho).2.2 rfl)
        · cases hm
    · exact .inr (.inl h0)
  · obtain ⟨id, e, xs, ho, he⟩ := h
    exact ⟨id, e, xs, (hown ho).1, he⟩
  · rw [sealed_length]; exact Nat.le_refl _
theorem back_ok {lent : List Nat} {C0 C' : Nat → Prop} {r : D} {v : Value} (hs : SR Γ σ w) (hl : ∀ id ∈ lent, Rows1 σ id) (hC : ∀ b, C0 b ↔ Γ.C b ∨ ∃ id ∈ lent, Γ.ρ id = b) (hb : Behind C0 w C' w') (hd : DataR C' w' r v)
    (h : σ.behind lent r = some σ') : Post Γ σ w r σ' (.returned v) w' := by
  unfold Store.behind at h
  split at h
  · rename_i hc
    injection h with h
    subst h
    rw [Bool.or_eq_true] at hc
    rcases hc with hc | hc
    · rw [List.isEmpty_iff] at hc
      subst hc
      exact back_sealed hs hl hC hb hd (by simp)
    · exact back_flat hs hb hd hc
  · split at h
    · rename_i hm
      injection h with h
      subst h
      exact back_sealed hs hl hC hb hd (by simpa using hm)
    · cases h
/-- A value as it was before, and as it is now: with the places of before alone. -/
def Narrow (Γ Γ' : Ctx) : Ctx := { Γ' with A := Γ.A }
theorem R.narrow {w0 : World} {m : Option Nat} {ds : List D} {vs : List Value} (h : R Γ' w' m ds vs) : ∀ {vs0 : List Value}, R Γ w0 m ds vs0 → R (Narrow Γ Γ') w' m ds vs := by
  induction h with
  | nil m => intro _ _; exact .nil m
  | @atom d v ds vs h t ih =>
    intro vs0 h0
    obtain ⟨v0, vs0', rfl, k1, k2⟩ := h0.cons_inv
    refine .atom ?_ (ih k2)
    cases d with
    | mp id => exact ⟨((R1.atom_iff rfl).1 k1).1, h.2⟩
    | ptr id i j => exact ⟨((R1.atom_iff rfl).1 k1).1, h.2⟩
    | ms id off len cap ex => exact ⟨((R1.atom_iff rfl).1 k1).1, h.2⟩
    | nsl b => cases b <;> exact h
    | _ => exact h
  | agg h hl t ih1 ih2 =>
    intro vs0 h0
    obtain ⟨v0, vs0', rfl, k1, k2⟩ := h0.cons_inv
    obtain ⟨us, _, k3, _⟩ := R1.agg.1 k1
    exact .agg (ih1 k3) hl (ih2 k2)
  | tup h t ih1 ih2 =>
    intro vs0 h0
    obtain ⟨v0, vs0', rfl, k1, k2⟩ := h0.cons_inv
    obtain ⟨us, _, k3⟩ := R1.tup.1 k1
    exact .tup (ih1 k3) (ih2 k2)
  | fn h1 h2 t ih1 ih2 ih3 =>
    intro vs0 h0
    obtain ⟨v0, vs0', rfl, k1, k2⟩ := h0.cons_inv
    obtain ⟨us, ws, _, k3, k4⟩ := R1.fn.1 k1
    exact .fn (ih1 k3) (ih2 k4) (ih3 k2)
  | sl hp hn hc hf h hz ha t ih1 ih2 =>
    intro vs0 h0
    obtain ⟨v0, vs0', rfl, k1, k2⟩ := h0.cons_inv
    refine .sl hp hn hc hf ?_ hz ha (ih2 k2)
    cases k1 with
    | atom h _ => exact h.elim
    | sl _ _ _ _ h' hz' _ _ => exact R.free (Γ := Γ') (Γ' := Narrow Γ Γ') (w := w') (w' := w') (fun b hb => hb) (fun _ _ => rfl) h hp
  | cpt hp he h hC ha t ih1 ih2 =>
    intro vs0 h0
    obtain ⟨v0, vs0', rfl, k1, k2⟩ := h0.cons_inv
    refine .cpt hp he ?_ hC ha (ih2 k2)
    cases k1 with
    | atom h _ => exact h.elim
    | cpt _ _ h' _ _ _ => exact ih1 h'
  | elem hx h hl t ih1 ih2 =>
    intro vs0 h0
    cases h0 with
    | elem _ h' _ t' => exact .elem hx (ih1 h') hl (ih2 t')
def PrimOk (P : Program) (M : Modes) : Prop := (∀ f, M.ro f = true → M.chk = true) ∧
  ∀ (f : FuncId) (p : CallF), M.prim f = some p → ∀ (args : List D) (σ : Store) (r : D) (σ' : Store) (Γ : Ctx) (w : World) (vargs : Array Value), p f args σ = some (r, σ') → SR Γ σ w → R Γ w none args vargs.toList →
    Does P f vargs w (Post Γ σ w r σ')
mutual
theorem D.same_eq : ∀ {a b : D}, D.same a b = true → a = b
  | .undef, b, h => by cases b <;> first | rfl | (simp [D.same] at h)
  | .any, b, h => by cases b <;> first | rfl | (simp [D.same] at h)
  | .nilp, b, h => by cases b <;> first | rfl | (simp [D.same] at h)
  | .nilfn, b, h => by cases b <;> first | rfl | (simp [D.same] at h)
  | .nilmp, b, h => by cases b <;> first | rfl | (simp [D.same] at h)
  | .junk, b, h => by cases b <;> first | rfl | (simp [D.same] at h)
  | .bool x, b, h => by cases b <;> first | (simp [D.same] at h; done) | (simp [D.same] at h; rw [h])
  | .int k n, b, h => by cases b <;> first | (simp [D.same] at h; done) | (simp [D.same] at h; rw [h.1, h.2])
  | .str s, b, h => by
    cases b with
    | str t =>
      have h : s.data.toList = t.data.toList := of_decide_eq_true (by simpa only [D.same] using h)
      have : s.data = t.data := Array.toList_inj.1 h
      rw [show s = t from ByteArray.ext this]
    | _ => simp [D.same] at h
  | .agg x, b, h => by
    cases b with
    | agg y => rw [sameL_eq (a := x) (b := y) (by simpa only [D.same] using h)]
    | _ => simp [D.same] at h
  | .sl f x, b, h => by
    cases b with
    | sl g y =>
      simp only [D.same, Bool.and_eq_true, beq_iff_eq] at h
      rw [h.1, sameL_eq (a := x) (b := y) h.2]
    | _ => simp [D.same] at h
  | .ms i j k l e, b, h => by
    cases b with
    | ms => simp only [D.same, Bool.and_eq_true, beq_iff_eq, decide_eq_true_eq] at h; rw [h.1.1.1.1, h.1.1.1.2, h.1.1.2, h.1.2, h.2]
    | _ => simp [D.same] at h
  | .ptr i j k, b, h => by
    cases b with
    | ptr => simp only [D.same, Bool.and_eq_true, decide_eq_true_eq] at h; rw [h.1.1, h.1.2, h.2]
    | _ => simp [D.same] at h
  | .nsl x, b, h => by cases b <;> first | (simp [D.same] at h; done) | (simp [D.same] at h; rw [h])
  | .tup x, b, h => by cases b <;> (simp [D.same] at h)
  | .cpt x j, b, h => by cases b <;> (simp [D.same] at h)
  | .fn f x y, b, h => by cases b <;> (simp [D.same] at h)
  | .mp i, b, h => by cases b <;> (simp [D.same] at h)
theorem sameL_eq : ∀ {a b : List D}, sameL a b = true → a = b
  | [], [], _ => rfl
  | [], y :: s, h => by simp [sameL] at h
  | x :: r, [], h => by simp [sameL] at h
  | x :: r, y :: s, h => by
    simp only [sameL, Bool.and_eq_true] at h
    rw [D.same_eq h.1, sameL_eq h.2]
end
theorem sameO_eq {a b : Option Ob} (h : sameO a b = true) : a = b := by
  unfold sameO at h
  split at h
  · rfl
  · simp only [Bool.and_eq_true, decide_eq_true_eq] at h
    rw [h.1.1, h.1.2, sameL_eq h.2]
  · cases h
theorem sameS_obj : ∀ {σ σ' : Store} {id : Nat} {o : Ob}, sameS σ σ' = true → σ.obj id = some o → σ'.obj id = some o
  | [], _, id, o, _, h => by simp [Store.obj] at h
  | a :: r, [], _, _, h, _ => by simp [sameS] at h
  | a :: r, b :: s, 0, o, h, ho => by
    simp only [sameS, Bool.and_eq_true] at h
    rw [← sameO_eq h.1]
    exact ho
  | a :: r, b :: s, id + 1, o, h, ho => by
    simp only [sameS, Bool.and_eq_true] at h
    exact sameS_obj (id := id) h.2 ho
theorem ro_post {r : D} {v : Value} {σ1 : Store} (hs : SR Γ σ w) (hf : r.flat = true) (hss : sameS σ σ1 = true) (h1 : R1 Γ' w' r v) (h2 : SR Γ' σ1 w') (h3 : Reach Γ σ w Γ' σ1 w') : Post Γ σ w r σ (.returned v) w' := by
  have htr := h3.tr
  have hag : Agree Γ (Narrow Γ Γ') := ⟨htr.agree.C, fun _ h => h, htr.agree.ρ, htr.agree.ez, htr.agree.bs⟩
  refine ⟨v, Narrow Γ Γ', rfl, flat_free hf h1, ⟨fun id st esz xs ho => ?_, hs.nomap, fun id id' o o' ho ho' he => h2.inj _ _ _ _ (sameS_obj hss ho) (sameS_obj hss ho') he, hs.live, h2.old, hs.below⟩, ⟨⟨hag, htr.cnew, fun b hb => ?_, htr.kept, htr.os, htr.tape, htr.output, htr.size⟩, Nat.le_refl _, fun _ h => .inl h⟩⟩
  · obtain ⟨⟨k1, k2, c, e, us, rest, k3, k4, k5, k6⟩, k7, k8⟩ := h2.row _ _ _ _ (sameS_obj hss ho)
    obtain ⟨⟨_, _, c0, e0, us0, rest0, _, _, _, j6⟩, _, _⟩ := hs.row _ _ _ _ ho
    exact ⟨⟨k1, k2, c, e, us, rest, k3, k4, k5, ⟨k6.r.narrow j6.r, k6.one⟩⟩, k7, k8⟩
  · obtain ⟨id, e, xs, ho, he⟩ := hb
    exact .inl ⟨id, e, xs, ho, by rw [← he]; exact (htr.agree.ρ id (hs.live _ _ ho)).symm⟩
theorem callD_ok {run : CallF} (hrun : CallOk P run) (hprim : PrimOk P M) : CallOk P (callD M run) := by
  have hr0 := hprim.1
  replace hprim := hprim.2
  intro f args σ r σ' Γ w vargs h hs hargs
  unfold callD at h
  split at h
  · rename_i p hp
    exact hprim f p hp _ _ _ _ Γ w vargs h hs hargs
  · split at h
    · split at h
      · rename_i hro
        obtain ⟨q, hq, he⟩ := Option.bind_eq_some_iff.1 h
        obtain ⟨e1, e2, e3⟩ := roEnd_some he
        subst e1 e2
        obtain ⟨hfl, hss⟩ := e3 (hr0 f hro)
        refine (hrun f args σ' q.1 q.2 Γ w vargs hq hs hargs).mono fun x w' hp => ?_
        obtain ⟨v, Γ', rfl, h1, h2, h3⟩ := hp
        exact ro_post hs hfl hss h1 h2 h3
      · exact hrun _ _ _ _ _ Γ w vargs h hs hargs
    · simp only at h
      have hl := lends_rows (σ := σ) (ds := args)
      have hag : Agree Γ { Γ with C := fun b => Γ.C b ∨ ∃ id ∈ args.flatMap fun d => (lend σ d).2, Γ.ρ id = b } := ⟨fun b hb => .inl hb, fun _ h => h, fun _ _ => rfl, fun _ _ => rfl, fun _ _ => rfl⟩
      have hargs' := lends_ok hs hag hargs fun id hid => .inr ⟨id, hid, rfl⟩
      obtain ⟨hs1, hno1⟩ := hs.shut hl (C := fun b => Γ.C b ∨ ∃ id ∈ args.flatMap fun d => (lend σ d).2, Γ.ρ id = b) fun b => Iff.rfl
      split at h
      · rename_i hfree
        split at h
        · rename_i r0 τ hr
          split at h
          · rename_i r' hf
            obtain ⟨s, hb, he⟩ := Option.map_eq_some_iff.1 h
            injection he with he1 he2
            subst he1 he2
            have k2 := pure_call (Γ0 := { Γ with C := fun b => Γ.C b ∨ ∃ id ∈ args.flatMap fun d => (lend σ d).2, Γ.ρ id = b, A := fun _ => False }) (σ0 := []) (w := w) hrun
              ⟨fun id st esz xs h => by simp [Store.obj] at h, fun id st kvs h => by simp [Store.obj] at h, fun id id' o o' h => by simp [Store.obj] at h, fun id o h => by simp [Store.obj] at h, hs1.old, fun id h => h.elim⟩
              (by rintro b ⟨id, e, xs, h, _⟩; simp [Store.obj] at h) (hargs'.free (Γ' := { Γ with C := fun b => Γ.C b ∨ ∃ id ∈ args.flatMap fun d => (lend σ d).2, Γ.ρ id = b, A := fun _ => False }) (fun b hb => by exact hb) (fun _ _ => rfl) hfree) hr hf
            refine k2.mono fun x w' hp => ?_
            obtain ⟨v, C', rfl, hd, hbe⟩ := hp
            exact back_ok hs hl (fun b => Iff.rfl) hbe hd hb
          · cases h
        · cases h
      · cases h

/-! ### the evaluator is sound -/
def GoodM (P : Program) (M : Modes) : Prop := ∀ f fn, M.good f = true → P.funcs[f]? = some fn → goodFn M fn = true
theorem entry_slots {args : List D} {vargs : Array Value} (h : R Γ w none args vargs.toList) (n : Nat) : Slots Γ w (entry args) { tmps := vargs ++ Array.replicate n Go.undef, defers := [] } := by
  intro t
  have hl : args.length = vargs.size := by simpa using h.length
  unfold entry
  rcases Nat.lt_or_ge t args.length with ht | ht
  · obtain ⟨v, hv, hr⟩ := h.get (List.getElem?_eq_getElem ht)
    have h1 : (vargs ++ Array.replicate n Go.undef).getD t Go.undef = v := by
      rw [Array.getElem?_toList] at hv
      rw [Array.getD_eq_getD_getElem?, Array.getElem?_append_left (by omega), hv]; rfl
    rw [List.getElem?_eq_getElem ht]
    simp only [Option.getD_some]
    rw [h1]; exact hr
  · have h1 : (vargs ++ Array.replicate n Go.undef).getD t Go.undef = Go.undef := by
      rw [Array.getD_eq_getD_getElem?, Array.getElem?_append_right (by omega)]
      rw [Array.getElem?_replicate]
      split <;> rfl
    rw [List.getElem?_eq_none ht]
    simp only [Option.getD_none]
    rw [h1]; exact R1.undef.2 rfl
theorem body_ok {run : CallF} {loop : LoopF} (hcall : CallOk P (callD M run)) (hloop : LoopOk P M loop) (hmix : P.follows .mixedOrders = true) {f : FuncId} {fn : Func} (hf : P.funcs[f]? = some fn) (hg : goodFn M fn = true) {args : List D} (hl : args.length = fn.params.size + fn.nfree)
    {r : D} {vargs : Array Value} (h : bodyD P (callD M run) loop fn args σ = some (r, σ')) (hs : SR Γ σ w) (hargs : R Γ w none args vargs.toList) : Does P f vargs w (Post Γ σ w r σ') := by
  unfold goodFn at hg
  simp only [Bool.and_eq_true, bne_iff_ne, ne_eq, decide_eq_true_eq] at hg
  obtain ⟨⟨hname, hnt⟩, hbody⟩ := hg
  unfold bodyD at h
  split at h
  case h_2 => cases h
  rename_i c hc
  rw [hc] at hbody
  simp only at hbody
  refine .inl ⟨⟨fn, hf, hname, by rw [hc]; rfl⟩, ?_⟩
  refine calls_of_wp hf hc ?_
  have hlen : args.length = vargs.size := by simpa using hargs.length
  have fin : ∀ {ex : Ex} {e' : Env} {s : Store}, (ex = .normal ∨ ex = .ret) → resultsD P fn.results.toList e' s = some r → s = σ' → ∀ a' w', CodeEnd fn.ntmps Γ σ w e' s [] a' w' → bodyPost P fn (Post Γ σ w r σ') (exOf ex) a' w' := by
    intro ex e' s hex hres hss a' w' hce
    subst hss
    obtain ⟨Γ', k1, k2, k3, k4, k5⟩ := hce
    obtain ⟨v, hv, hr⟩ := results_ok k2 k1 hres
    rcases hex with rfl | rfl <;> exact ⟨k5, v, hv, v, Γ', rfl, hr, k2, k3⟩
  split at h
  case h_3 => cases h
  all_goals
    rename_i hev
    obtain ⟨d, hd, he⟩ := Option.map_eq_some_iff.1 h
    injection he with he1 he2
    subst he1
    exact code_sim hcall hloop hmix c hbody hev (entry_slots hargs _) hs (by simp; omega) (fin (by simp) hd he2)
theorem sound (hgood : GoodM P M) (hprim : PrimOk P M) (hmix : P.follows .mixedOrders = true) : ∀ n, CallOk P (runN P M n).1 ∧ LoopOk P M (runN P M n).2 := by
  intro n
  induction n using Nat.strongRecOn with
  | _ n ih =>
    constructor
    · intro f args σ r σ' Γ w vargs h hs hargs
      cases n with
      | zero => simp [runN] at h
      | succ n =>
        rw [runN] at h
        simp only at h
        split at h
        case isFalse => cases h
        rename_i hg
        split at h
        case h_2 => cases h
        rename_i fn hf
        split at h
        case isFalse => cases h
        rename_i hl
        obtain ⟨i1, i2⟩ := ih n (Nat.lt_succ_self n)
        exact body_ok (callD_ok i1 hprim) i2 hmix hf (hgood f fn hg hf) hl h hs hargs
    · intro c N e σ ex e' σ' Γ w a Q hgc h hsl hs hN hQ
      refine wp_loop_ghost (fun k a1 w1 => k ≤ n ∧ ∃ e1 σ1 Γ1, (runN P M k).2 c e1 σ1 = some (ex, e', σ') ∧ Slots Γ1 w1 e1 a1 ∧ SR Γ1 σ1 w1 ∧ a1.tmps.size = N ∧ a1.defers = a.defers ∧ Reach Γ σ w Γ1 σ1 w1) n ⟨Nat.le_refl _, e, σ, Γ, h, hsl, hs, hN, rfl, .refl _ _ _⟩ ?_
      rintro k a1 w1 ⟨hk, e1, σ1, Γ1, k1, k2, k3, k4, k5, k6⟩
      cases k with
      | zero => simp [runN] at k1
      | succ k =>
        rw [runN] at k1
        simp only [roundD] at k1
        obtain ⟨i1, i2⟩ := ih k (by omega)
        cases hev : evCode P (callD M (runN P M k).1) (runN P M k).2 c e1 σ1 with
        | none => rw [hev] at k1; cases k1
        | some q =>
          obtain ⟨ex2, e2, σ2⟩ := q
          rw [hev] at k1
          refine code_sim (callD_ok i1 hprim) i2 hmix c hgc hev k2 k3 k4 ?_
          intro a2 w2 hce
          obtain ⟨Γ2, l1, l2, l3, l4, l5⟩ := hce
          cases ex2 with
          | normal => exact ⟨k, Nat.lt_succ_self k, by omega, e2, σ2, Γ2, k1, l1, l2, l4, l5.trans k5, k6.trans l3⟩
          | exit id =>
            injection k1 with k1; injection k1 with h1 k1; injection k1 with h2 h3; subst h1 h2 h3
            exact hQ a2 w2 ⟨Γ2, l1, l2, k6.trans l3, l4, l5.trans k5⟩
          | ret =>
            injection k1 with k1; injection k1 with h1 k1; injection k1 with h2 h3; subst h1 h2 h3
            exact hQ a2 w2 ⟨Γ2, l1, l2, k6.trans l3, l4, l5.trans k5⟩
theorem run_ok (hgood : GoodM P M) (hprim : PrimOk P M) (hmix : P.follows .mixedOrders = true) : CallOk P (run P M) := by
  intro f args σ r σ' Γ w vargs h hs hargs
  obtain ⟨n, hn⟩ := run_iff.1 h
  exact (sound hgood hprim hmix n).1 _ _ _ _ _ Γ w vargs hn hs hargs
end
end Go.Proofs.Ytgibpomhiilehaa.Dv
