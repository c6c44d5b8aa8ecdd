/- Calls that hand out data alone; the evaluator is sound for the machine. -/
import Derived.Test.YtgibpomhiilehaaDvCode
set_option linter.unusedVariables false
set_option linter.unusedSimpArgs false
namespace Go.Proofs.Ytgibpomhiilehaa.Dv
open Go

section
variable {P : Program} {M : Modes} {N : Nat} {Γ Γ' : Ctx} {w w' : World} {σ σ' : Store}

/-! ### slices as data -/
theorem sl_of_ms (hs : SR Γ σ w) {id off len cap : Nat} {ex : Bool} {v : Value} (h : R1 Γ w (.ms id off len cap ex) v) {st : St} {esz : Nat} {xs : List D} (ho : σ.obj id = some (.row st esz xs)) (hle : off + len ≤ xs.length)
    (hp : ((xs.drop off).take len).all D.pure = true) (ha : Agree Γ Γ') (hC : Γ'.C (Γ.ρ id)) : R1 Γ' w (.sl (ex && decide (cap = len)) ((xs.drop off).take len)) v := by
  obtain ⟨hA, a, c, rfl, h1, h2, h3, h4, h5, h6⟩ := R1.ms.1 h
  obtain ⟨⟨he, hz, cc, e, us, rest, hh, hb, hc, ⟨hr, _⟩⟩, _⟩ := hs.row _ _ _ _ ho
  have hr2 := ((hr.takeE off (by omega)).2.takeE len (by rw [List.length_drop]; omega)).1
  have hlen : ((xs.drop off).take len).length = len := by rw [List.length_take, List.length_drop]; omega
  refine R1.sl.2 ⟨a, c, esz, (us.drop (off * esz)).take (len * esz), by rw [hlen], hp, by rw [hlen]; exact h1, h6, fun hf => ?_, hr2.mono ha (fun _ _ => rfl), hz, fun hne => ?_⟩
  · simp only [Bool.and_eq_true, decide_eq_true_eq] at hf
    rw [hlen, h3 hf.1, hf.2]
  · rcases h4 with h4 | h4
    · exfalso
      apply hne
      apply List.eq_nil_of_length_eq_zero
      omega
    · refine ⟨Γ.ρ id, off * Γ.ez id + 0, by rw [h4]; rfl, hC, fun k u hu => ?_⟩
      rw [cell_of_row w _ _ cc e (0, 0) hh]
      rw [List.getElem?_take] at hu
      split at hu
      · rw [List.getElem?_drop] at hu
        have hk : (us ++ rest)[off * esz + k]? = some u := by rw [List.getElem?_append_left (List.getElem?_eq_some_iff.1 hu).1]; exact hu
        rw [← hc] at hk
        rw [← he]
        simpa using hk
      · cases hu
def Rows1 (σ : Store) (id : Nat) : Prop := ∃ st e xs, σ.obj id = some (.row st e xs)
theorem lendLeaf_ok (hs : SR Γ σ w) (ha : Agree Γ Γ') {d : D} {v : Value} (h : R1 Γ w d v) (hC : ∀ id ∈ (lendLeaf σ d).2, Γ'.C (Γ.ρ id)) : R1 Γ' w (lendLeaf σ d).1 v := by
  have other : R1 Γ' w d v := h.mono ha fun _ _ => rfl
  unfold lendLeaf at hC ⊢
  split
  · split
    · rename_i ho
      split
      · rename_i hc
        refine sl_of_ms hs h ho hc.1 hc.2 ha (hC _ ?_)
        simp only [ho]
        rw [if_pos hc]
        exact List.mem_cons_self ..
      · exact other
    · exact other
  · exact other
theorem lendLeaf_leaf {d : D} (h : d.leaf = true) : (lendLeaf σ d).1.leaf = true := by
  unfold lendLeaf
  split
  · split
    · split <;> rfl
    · rfl
  · exact h
theorem lendLeaf_rows {d : D} : ∀ id ∈ (lendLeaf σ d).2, Rows1 σ id := by
  intro id hid
  unfold lendLeaf at hid
  split at hid
  · split at hid
    · rename_i ho
      split at hid
      · simp only [List.mem_singleton] at hid; subst hid; exact ⟨_, _, _, ho⟩
      · cases hid
    · cases hid
  · cases hid
theorem lendLeafs_ok (hs : SR Γ σ w) (ha : Agree Γ Γ') : ∀ {ds : List D} {vs : List Value}, R Γ w none ds vs → (∀ id ∈ ds.flatMap fun d => (lendLeaf σ d).2, Γ'.C (Γ.ρ id)) → R Γ' w none (ds.map fun d => (lendLeaf σ d).1) vs
  | [], vs, h, _ => by rw [h.nil_inv]; exact .nil _
  | d :: ds, vs, h, hC => by
    obtain ⟨v, vs', rfl, h1, h2⟩ := h.cons_inv
    simp only [List.flatMap_cons, List.mem_append] at hC
    exact R.cons (lendLeaf_ok hs ha h1 fun id hid => hC id (.inl hid)) (lendLeafs_ok hs ha h2 fun id hid => hC id (.inr hid))
theorem lend_ok (hs : SR Γ σ w) (ha : Agree Γ Γ') {d : D} {v : Value} (h : R1 Γ w d v) (hC : ∀ id ∈ (lend σ d).2, Γ'.C (Γ.ρ id)) : R1 Γ' w (lend σ d).1 v := by
  cases d with
  | agg ds =>
    obtain ⟨us, rfl, hr, hl⟩ := R1.agg.1 h
    refine R1.agg.2 ⟨us, rfl, lendLeafs_ok hs ha hr hC, ?_⟩
    rw [List.all_map]
    rw [List.all_eq_true] at hl ⊢
    exact fun d hd => lendLeaf_leaf (hl d hd)
  | _ => exact lendLeaf_ok hs ha h hC
theorem lend_rows {d : D} : ∀ id ∈ (lend σ d).2, Rows1 σ id := by
  cases d with
  | agg ds =>
    intro id hid
    obtain ⟨d, _, h⟩ := List.mem_flatMap.1 hid
    exact lendLeaf_rows id h
  | _ => exact lendLeaf_rows
theorem lends_ok (hs : SR Γ σ w) (ha : Agree Γ Γ') : ∀ {ds : List D} {vs : List Value}, R Γ w none ds vs → (∀ id ∈ ds.flatMap fun d => (lend σ d).2, Γ'.C (Γ.ρ id)) → R Γ' w none (ds.map fun d => (lend σ d).1) vs
  | [], vs, h, _ => by rw [h.nil_inv]; exact .nil _
  | d :: ds, vs, h, hC => by
    obtain ⟨v, vs', rfl, h1, h2⟩ := h.cons_inv
    simp only [List.flatMap_cons, List.mem_append] at hC
    exact R.cons (lend_ok hs ha h1 fun id hid => hC id (.inl hid)) (lends_ok hs ha h2 fun id hid => hC id (.inr hid))
theorem lends_rows {ds : List D} : ∀ id ∈ ds.flatMap fun d => (lend σ d).2, Rows1 σ id := fun id hid => by
  obtain ⟨d, _, h⟩ := List.mem_flatMap.1 hid
  exact lend_rows id h

/-! ### what is handed out -/
theorem frzLeaf_ok (hs : SR Γ σ w) (ha : Agree Γ Γ') {base : Nat} {d d' : D} {v : Value} (h : R1 Γ w d v) (hf : frzLeaf base σ d = some d')
    (hC : ∀ id st e xs, st ≠ .shut → σ.obj id = some (.row st e xs) → Γ'.C (Γ.ρ id)) : R1 Γ' w d' v ∧ d'.pleaf = true := by
  unfold frzLeaf at hf
  split at hf
  · split at hf
    · rename_i ho
      split at hf
      · rename_i hc
        injection hf with hf
        subst hf
        exact ⟨sl_of_ms hs h ho hc.2.1 hc.2.2 ha (hC _ _ _ _ hc.1 ho), rfl⟩
      · cases hf
    · cases hf
  · split at hf
    · rename_i hp
      injection hf with hf
      subst hf
      exact ⟨h.mono ha fun _ _ => rfl, hp⟩
    · cases hf
theorem mapM_cons_inv {α β : Type} {f : α → Option β} {x : α} {l : List α} {ys : List β} (h : (x :: l).mapM f = some ys) : ∃ y ys', f x = some y ∧ l.mapM f = some ys' ∧ ys = y :: ys' := by
  rw [List.mapM_cons] at h
  cases h1 : f x with
  | none => simp [h1] at h
  | some y =>
    cases h2 : l.mapM f with
    | none => simp [h1, h2] at h
    | some ys' => simp [h1, h2] at h; exact ⟨y, ys', rfl, rfl, h.symm⟩
theorem frzLeafs_ok (hs : SR Γ σ w) (ha : Agree Γ Γ') {base : Nat} (hC : ∀ id st e xs, st ≠ .shut → σ.obj id = some (.row st e xs) → Γ'.C (Γ.ρ id)) : ∀ {ds ds' : List D} {vs : List Value}, R Γ w none ds vs → ds.mapM (frzLeaf base σ) = some ds' →
    R Γ' w none ds' vs ∧ ds'.all D.pleaf = true
  | [], ds', vs, h, hf => by
    simp only [List.mapM_nil] at hf
    injection hf with hf; subst hf
    rw [h.nil_inv]
    exact ⟨.nil _, rfl⟩
  | d :: ds, ds', vs, h, hf => by
    obtain ⟨v, vs', rfl, h1, h2⟩ := h.cons_inv
    obtain ⟨y, ys, e1, e2, rfl⟩ := mapM_cons_inv hf
    obtain ⟨k1, k2⟩ := frzLeaf_ok hs ha h1 e1 hC
    obtain ⟨l1, l2⟩ := frzLeafs_ok hs ha hC h2 e2
    exact ⟨R.cons k1 l1, by rw [List.all_cons, k2, l2]; rfl⟩
theorem pleaf_leaf {d : D} (h : d.pleaf = true) : d.leaf = true := by cases d <;> first | rfl | (cases h)
theorem pleaf_pure {d : D} (h : d.pleaf = true) : d.pure = true := by cases d <;> first | (exact h) | (cases h)
theorem frzVal_ok (hs : SR Γ σ w) (ha : Agree Γ Γ') {base : Nat} {d d' : D} {v : Value} (h : R1 Γ w d v) (hf : frzVal base σ d = some d')
    (hC : ∀ id st e xs, st ≠ .shut → σ.obj id = some (.row st e xs) → Γ'.C (Γ.ρ id)) : R1 Γ' w d' v ∧ d'.pure = true := by
  cases d with
  | agg ds =>
    simp only [frzVal] at hf
    obtain ⟨ds', hds, rfl⟩ := Option.map_eq_some_iff.1 hf
    obtain ⟨us, rfl, hr, hl⟩ := R1.agg.1 h
    obtain ⟨k1, k2⟩ := frzLeafs_ok hs ha hC hr hds
    refine ⟨R1.agg.2 ⟨us, rfl, k1, ?_⟩, k2⟩
    rw [List.all_eq_true] at k2 ⊢
    exact fun d hd => pleaf_leaf (k2 d hd)
  | _ =>
    obtain ⟨k1, k2⟩ := frzLeaf_ok (base := base) hs ha h hf hC
    exact ⟨k1, pleaf_pure k2⟩
theorem frzVals_ok (hs : SR Γ σ w) (ha : Agree Γ Γ') {base : Nat} (hC : ∀ id st e xs, st ≠ .shut → σ.obj id = some (.row st e xs) → Γ'.C (Γ.ρ id)) : ∀ {ds ds' : List D} {vs : List Value}, R Γ w none ds vs → ds.mapM (frzVal base σ) = some ds' →
    R Γ' w none ds' vs ∧ ds'.all D.pure = true
  | [], ds', vs, h, hf => by
    simp only [List.mapM_nil] at hf
    injection hf with hf; subst hf
    rw [h.nil_inv]
    exact ⟨.nil _, rfl⟩
  | d :: ds, ds', vs, h, hf => by
    obtain ⟨v, vs', rfl, h1, h2⟩ := h.cons_inv
    obtain ⟨y, ys, e1, e2, rfl⟩ := mapM_cons_inv hf
    obtain ⟨k1, k2⟩ := frzVal_ok hs ha h1 e1 hC
    obtain ⟨l1, l2⟩ := frzVals_ok hs ha hC h2 e2
    exact ⟨R.cons k1 l1, by rw [List.all_cons, k2, l2]; rfl⟩
/-- Data, wherever its constant blocks are known. -/
def DataR (C : Nat → Prop) (w : World) (d : D) (v : Value) : Prop := ∀ Γ : Ctx, (∀ b, C b → Γ.C b) → R1 Γ w d v
theorem pure_free {d : D} (h : d.pure = true) : d.free = true := by cases d <;> first | (exact h) | (cases h)
theorem frz_ok (hs : SR Γ σ w) (ha : Agree Γ Γ') {base : Nat} {d d' : D} {v : Value} (h : R1 Γ w d v) (hf : frz base σ d = some d')
    (hC : ∀ id st e xs, st ≠ .shut → σ.obj id = some (.row st e xs) → Γ'.C (Γ.ρ id)) : DataR Γ'.C w d' v := by
  have one : ∀ {d d' : D} {v : Value}, R1 Γ w d v → frzVal base σ d = some d' → DataR Γ'.C w d' v := fun h hf Γ2 h2 => by
    obtain ⟨k1, k2⟩ := frzVal_ok hs ha h hf hC
    exact k1.free h2 (fun _ _ => rfl) (by simp [freeM, pure_free k2])
  cases d with
  | tup ds =>
    simp only [frz] at hf
    obtain ⟨ds', hds, rfl⟩ := Option.map_eq_some_iff.1 hf
    obtain ⟨us, rfl, hr⟩ := R1.tup.1 h
    intro Γ2 h2
    obtain ⟨k1, k2⟩ := frzVals_ok hs ha hC hr hds
    refine R1.tup.2 ⟨us, rfl, k1.free h2 (fun _ _ => rfl) ?_⟩
    rw [List.all_eq_true] at k2 ⊢
    exact fun d hd => pure_free (k2 d hd)
  | _ => exact one h hf
theorem flatLeaf_free {d : D} {v : Value} (hf : d.flatLeaf = true) (h : R1 Γ w d v) : R1 Γ' w' d v := by
  cases d <;> first | (cases hf; done) | skip
  case bool => exact R1.bool.2 (R1.bool.1 h)
  case int => exact R1.int.2 (R1.int.1 h)
  case str => exact R1.str.2 (R1.str.1 h)
  case nilp => exact R1.nilp.2 (R1.nilp.1 h)
  case nilfn => exact R1.nilfn.2 (R1.nilfn.1 h)
  case nilmp => exact (R1.atom_iff rfl).2 (show atom Γ' .nilmp v from (show atom Γ .nilmp v from (R1.atom_iff rfl).1 h))
theorem flatLeafs_free : ∀ {ds : List D} {vs : List Value}, ds.all D.flatLeaf = true → R Γ w none ds vs → R Γ' w' none ds vs
  | [], vs, _, h => by rw [h.nil_inv]; exact .nil _
  | d :: ds, vs, hf, h => by
    obtain ⟨v, vs', rfl, h1, h2⟩ := h.cons_inv
    simp only [List.all_cons, Bool.and_eq_true] at hf
    exact R.cons (flatLeaf_free hf.1 h1) (flatLeafs_free hf.2 h2)
def D.flatV : D → Bool
  | .agg es => es.all D.flatLeaf
  | d => d.flatLeaf
theorem flatV_free {d : D} {v : Value} (hf : d.flatV = true) (h : R1 Γ w d v) : R1 Γ' w' d v := by
  cases d with
  | agg es =>
    obtain ⟨us, rfl, hr, hl⟩ := R1.agg.1 h
    exact R1.agg.2 ⟨us, rfl, flatLeafs_free hf hr, hl⟩
  | _ => exact flatLeaf_free hf h
theorem flatVs_free : ∀ {ds : List D} {vs : List Value}, ds.all D.flatV = true → R Γ w none ds vs → R Γ' w' none ds vs
  | [], vs, _, h => by rw [h.nil_inv]; exact .nil _
  | d :: ds, vs, hf, h => by
    obtain ⟨v, vs', rfl, h1, h2⟩ := h.cons_inv
    simp only [List.all_cons, Bool.and_eq_true] at hf
    exact R.cons (flatV_free hf.1 h1) (flatVs_free hf.2 h2)
theorem flat_free {d : D} {v : Value} (hf : d.flat = true) (h : R1 Γ w d v) : R1 Γ' w' d v := by
  cases d with
  | tup ds =>
    obtain ⟨us, rfl, hr⟩ := R1.tup.1 h
    refine R1.tup.2 ⟨us, rfl, flatVs_free ?_ hr⟩
    simp only [D.flat] at hf
    rw [List.all_eq_true] at hf ⊢
    intro d hd
    have := hf d hd
    cases d <;> exact this
  | agg es => exact flatV_free hf h
  | _ => exact flatLeaf_free hf h

/-! ### the caller's store -/
theorem shut_obj (σ : Store) (lent : List Nat) (id : Nat) : (σ.shut lent).obj id = if lent.contains id then none else (σ.obj id).map shutOb := by
  unfold Store.shut Store.obj
  rw [List.getElem?_mapIdx]
  cases h : σ[id]? with
  | none => simp
  | some o => simp only [Option.map_some, Option.bind_some]
theorem shut_row {o : Ob} {st : St} {e : Nat} {xs : List D} (h : shutOb o = .row st e xs) : st ≠ .own ∧ ∃ st', o = .row st' e xs ∧ (st = .cst → st' = .cst) := by
  cases o with
  | row st' e' xs' =>
    cases st' <;> (simp only [shutOb] at h; injection h with h1 h2 h3; subst h1 h2 h3; exact ⟨by simp, _, rfl, by simp⟩)
  | map st' kvs => cases st' <;> simp [shutOb] at h
theorem SR.shut (hs : SR Γ σ w) {lent : List Nat} (hl : ∀ id ∈ lent, Rows1 σ id) {C : Nat → Prop} (hC : ∀ b, C b ↔ Γ.C b ∨ ∃ id ∈ lent, Γ.ρ id = b) : SR { Γ with C := C } (σ.shut lent) w ∧ ∀ b, ¬ Own { Γ with C := C } (σ.shut lent) b := by
  have hag : Agree Γ { Γ with C := C } := ⟨fun b hb => (hC b).2 (.inl hb), fun _ h => h, fun _ _ => rfl, fun _ _ => rfl, fun _ _ => rfl⟩
  have hob : ∀ {id : Nat} {o : Ob}, (σ.shut lent).obj id = some o → ∃ o', σ.obj id = some o' ∧ shutOb o' = o := by
    intro id o h
    rw [shut_obj] at h
    split at h
    · cases h
    · exact Option.map_eq_some_iff.1 h
  have hnown : ∀ b, ¬ Own { Γ with C := C } (σ.shut lent) b := by
    rintro b ⟨id, e, xs, h, _⟩
    obtain ⟨o', ho, he⟩ := hob h
    exact (shut_row he).1 rfl
  refine ⟨⟨fun id st esz xs h => ?_, fun id st kvs h => ?_, fun id id' o o' h h' => ?_, fun id o h => ?_, fun b hb => ?_, fun id h => ?_⟩, hnown⟩
  · obtain ⟨o', ho, he⟩ := hob h
    obtain ⟨hne, st', rfl, hcst⟩ := shut_row he
    obtain ⟨⟨h1, h2, c, e, us, rest, h3, h4, h5, h6⟩, k1, k2⟩ := hs.row _ _ _ _ ho
    exact ⟨⟨h1, h2, c, e, us, rest, h3, h4, h5, h6.mono hag fun _ _ => rfl⟩, fun h => absurd h hne, fun h => (hC _).2 (.inl (k2 (hcst h)))⟩
  · obtain ⟨o', ho, he⟩ := hob h
    cases o' with
    | row st' e xs => cases st' <;> simp [shutOb] at he
    | map st' kvs' => exact hs.nomap _ _ _ ho
  · obtain ⟨p, hp, _⟩ := hob h
    obtain ⟨q, hq, _⟩ := hob h'
    exact hs.inj _ _ _ _ hp hq
  · obtain ⟨p, hp, _⟩ := hob h
    exact hs.live _ _ hp
  · rcases (hC b).1 hb with hb | ⟨id, hid, rfl⟩
    · exact hs.old b hb
    · obtain ⟨st, e, xs, ho⟩ := hl id hid
      obtain ⟨⟨_, _, c, _, _, _, h3, _⟩, _⟩ := hs.row _ _ _ _ ho
      exact (Array.getElem?_eq_some_iff.1 h3).1
  · have := hs.below id h
    unfold Store.shut
    simpa using this
theorem sealed_obj : ∀ (lent : List Nat) (σ : Store) (id : Nat), (σ.sealed lent).obj id = if id ∈ lent then (σ.obj id).map sealOb else σ.obj id
  | [], σ, id => by simp [Store.sealed]
  | i :: lent, σ, id => by
    have hidem : ∀ o, sealOb (sealOb o) = sealOb o := by
      intro o
      cases o with
      | row st e xs => cases st <;> rfl
      | map => rfl
    unfold Store.sealed
    rw [List.foldl_cons]
    cases ho : σ.obj i with
    | none =>
      have := sealed_obj lent σ id
      unfold Store.sealed at this
      simp only [this, List.mem_cons]
      by_cases hi : id = i
      · subst hi; simp [ho]
      · simp [hi]
    | some o =>
      have := sealed_obj lent (σ.put i (some (sealOb o))) id
      unfold Store.sealed at this
      simp only [this, List.mem_cons]
      by_cases hi : id = i
      · subst hi
        rw [obj_put_eq ho, ho]
        simp [hidem]
      · rw [obj_put_ne hi]
        simp [hi]
theorem sealed_length (lent : List Nat) : ∀ σ : Store, (σ.sealed lent).length = σ.length := by
  induction lent with
  | nil => intro σ; rfl
  | cons i lent ih =>
    intro σ
    unfold Store.sealed
    rw [List.foldl_cons]
    cases ho : σ.obj i with
    | none => exact ih σ
    | some o => exact (ih _).trans (length_put ..)
end
end Go.Proofs.Ytgibpomhiilehaa.Dv
