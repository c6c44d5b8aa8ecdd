/- Each operation of the evaluator is the machine's: writing, new objects. -/
import Derived.Test.YtgibpomhiilehaaDvOps
set_option linter.unusedVariables false
set_option linter.unusedSimpArgs false
namespace Go.Proofs.Ytgibpomhiilehaa.Dv
open Go

section
variable {P : Program} {Γ Γ' : Ctx} {w w' : World} {σ σ' : Store}

theorem seg {α : Type} (A X C rest zs : List α) (j : Nat) (hj : j + zs.length ≤ X.length) : ((A ++ X ++ C) ++ rest).take (A.length + j) ++ zs ++ ((A ++ X ++ C) ++ rest).drop (A.length + j + zs.length) = (A ++ (X.take j ++ zs ++ X.drop (j + zs.length)) ++ C) ++ rest := by
  have e1 : ((A ++ X ++ C) ++ rest).take (A.length + j) = A ++ X.take j := by
    rw [List.append_assoc, List.append_assoc, List.take_append, List.take_append, List.take_of_length_le (by omega : A.length ≤ A.length + j)]
    have h1 : A.length + j - A.length = j := by omega
    have h2 : j - X.length = 0 := by omega
    rw [h1, h2]
    simp
  have e2 : ((A ++ X ++ C) ++ rest).drop (A.length + j + zs.length) = X.drop (j + zs.length) ++ C ++ rest := by
    rw [List.append_assoc, List.append_assoc, List.drop_append, List.drop_append, List.drop_append]
    have h1 : A.length + j + zs.length - A.length - X.length = 0 := by omega
    have h2 : A.length + j + zs.length - A.length = j + zs.length := by omega
    rw [h1, h2]
    simp
    omega
  rw [e1, e2]
  simp [List.append_assoc]
theorem seg' {α : Type} (us rest zs : List α) (p e j : Nat) (h : p + e ≤ us.length) (hj : j + zs.length ≤ e) :
   (us ++ rest).take (p+j) ++ zs ++ (us++rest).drop (p+j+zs.length) = (us.take p ++ (((us.drop p).take e).take j ++ zs ++ ((us.drop p).take e).drop (j+zs.length)) ++ us.drop (p+e)) ++ rest := by
  have hu : us = us.take p ++ (us.drop p).take e ++ us.drop (p+e) := by
    rw [List.append_assoc, ← List.drop_drop, List.take_append_drop, List.take_append_drop]
  have hp : (us.take p).length = p := by rw [List.length_take]; omega
  have hx : ((us.drop p).take e).length = e := by rw [List.length_take, List.length_drop]; omega
  have := seg (us.take p) ((us.drop p).take e) (us.drop (p+e)) rest zs j (by omega)
  rw [← hu, hp] at this
  exact this

theorem obj_put (σ : Store) (id : Nat) (o : Option Ob) (k : Nat) : (σ.put id o).obj k = if k = id ∧ id < σ.length then o else σ.obj k := by
  unfold Store.put Store.obj
  rw [List.getElem?_set]
  by_cases h : id = k
  · subst h
    by_cases hl : id < σ.length <;> simp [hl]
  · have : ¬ k = id := fun e => h e.symm
    simp [h, this]
theorem obj_put_same {σ : Store} {id : Nat} (h : id < σ.length) (o : Option Ob) : (σ.put id o).obj id = o := by rw [obj_put, if_pos ⟨rfl, h⟩]
theorem obj_put_ne {σ : Store} {id k : Nat} (h : k ≠ id) (o : Option Ob) : (σ.put id o).obj k = σ.obj k := by rw [obj_put, if_neg fun e => h e.1]
theorem length_put (σ : Store) (id : Nat) (o : Option Ob) : (σ.put id o).length = σ.length := by simp [Store.put]
theorem obj_lt {σ : Store} {id : Nat} {o : Ob} (h : σ.obj id = some o) : id < σ.length := by
  unfold Store.obj at h
  cases hq : σ[id]? with
  | none => rw [hq] at h; cases h
  | some x => exact (List.getElem?_eq_some_iff.1 hq).1

/-- An own object written. -/
theorem SR.write (hs : SR Γ σ w) {id esz : Nat} {xs xs' : List D} (ho : σ.obj id = some (.row .own esz xs)) {c c' : Array Value} {e : TypeId} (hh : w.heap[Γ.ρ id]? = some (.cells c e (0, 0))) (hb : c'.size = Γ.bs id)
    {us rest : List Value} (hc : c'.toList = us ++ rest) (hr : RE Γ w esz xs' us rest) :
    SR Γ (σ.put id (some (.row .own esz xs'))) (w.setRow (Γ.ρ id) c') ∧ Tr Γ σ w Γ (σ.put id (some (.row .own esz xs'))) (w.setRow (Γ.ρ id) c') := by
  have hown : Own Γ σ (Γ.ρ id) := ⟨id, esz, xs, ho, rfl⟩
  obtain ⟨⟨he, hz, _⟩, hnC, _⟩ := hs.row _ _ _ _ ho
  have hid := obj_lt ho
  have hC : ∀ b, Γ.C b → b ≠ Γ.ρ id := fun b hb e => hnC rfl (e ▸ hb)
  have hsame : SameC Γ w (w.setRow (Γ.ρ id) c') := fun b hb => setRow_other w _ _ _ (hC b hb)
  constructor
  · refine ⟨fun k st ez ys hk => ?_, fun k st kvs hk => ?_, fun k k' o o' hk hk' hkk => ?_, fun k o hk => ?_, fun b hb => by simpa using hs.old b hb, fun k hk => by rw [length_put]; exact hs.below k hk⟩
    · by_cases hki : k = id
      · subst hki
        rw [obj_put_same hid] at hk
        injection hk with hk
        injection hk with h1 h2 h3
        subst h1 h2 h3
        exact ⟨⟨he, hz, c', e, us, rest, setRow_heap w _ c _ e _ hh, hb, hc, hr.mono (.refl _) hsame⟩, hnC, fun h => by cases h⟩
      · rw [obj_put_ne hki] at hk
        obtain ⟨⟨h1, h2, d, t, vs, rs, h3, h4, h5, h6⟩, h7, h8⟩ := hs.row _ _ _ _ hk
        have hne : Γ.ρ k ≠ Γ.ρ id := fun e => hki (hs.inj _ _ _ _ hk ho e)
        exact ⟨⟨h1, h2, d, t, vs, rs, by rw [setRow_other w _ _ _ hne]; exact h3, h4, h5, h6.mono (.refl _) hsame⟩, h7, h8⟩
    · by_cases hki : k = id
      · subst hki; rw [obj_put_same hid] at hk; cases hk
      · rw [obj_put_ne hki] at hk; exact hs.nomap _ _ _ hk
    · have hx : ∀ k o, (σ.put id (some (.row .own esz xs'))).obj k = some o → ∃ o', σ.obj k = some o' := fun k o hk => by
        by_cases hki : k = id
        · subst hki; exact ⟨_, ho⟩
        · rw [obj_put_ne hki] at hk; exact ⟨_, hk⟩
      obtain ⟨_, h1⟩ := hx _ _ hk
      obtain ⟨_, h2⟩ := hx _ _ hk'
      exact hs.inj _ _ _ _ h1 h2 hkk
    · by_cases hki : k = id
      · subst hki; exact hs.live _ _ ho
      · rw [obj_put_ne hki] at hk; exact hs.live _ _ hk
  · refine ⟨.refl _, fun b hb => .inl hb, fun b hb => ?_, fun b hb hn => setRow_other w _ _ _ (fun e => hn (e ▸ hown)), rfl, rfl, rfl, by simp⟩
    obtain ⟨k, ez, ys, hk, rfl⟩ := hb
    by_cases hki : k = id
    · subst hki; exact .inl hown
    · rw [obj_put_ne hki] at hk; exact .inl ⟨k, ez, ys, hk, rfl⟩
/-- An object let go. -/
theorem SR.retire (hs : SR Γ σ w) (id : Nat) : SR Γ (σ.put id none) w ∧ Tr Γ σ w Γ (σ.put id none) w := by
  have hx : ∀ {k o}, (σ.put id none).obj k = some o → σ.obj k = some o := fun {k o} hk => by
    rw [obj_put] at hk
    split at hk
    · cases hk
    · exact hk
  refine ⟨⟨fun k st ez ys hk => hs.row _ _ _ _ (hx hk), fun k st kvs hk => hs.nomap _ _ _ (hx hk), fun k k' o o' hk hk' => hs.inj _ _ _ _ (hx hk) (hx hk'), fun k o hk => hs.live _ _ (hx hk), hs.old, fun k hk => by rw [length_put]; exact hs.below k hk⟩,
    ⟨.refl _, fun b hb => .inl hb, fun b hb => ?_, fun _ _ _ => rfl, rfl, rfl, rfl, Nat.le_refl _⟩⟩
  obtain ⟨k, ez, ys, hk, rfl⟩ := hb
  exact .inl ⟨k, ez, ys, hx hk, rfl⟩
/-- A new object. -/
theorem SR.new (hs : SR Γ σ w) {aid : Nat} (hA : ¬ Γ.A aid) (hl : aid < σ.length) {c : Array Value} {e : TypeId} (hw : w'.heap = w.heap.push (.cells c e)) (hos : w'.os = w.os) (htp : w'.tape = w.tape) (hout : w'.output = w.output)
    {esz : Nat} {xs : List D} {us rest : List Value} (hc : c.toList = us ++ rest) (hr : RE Γ w esz xs us rest) (hz : 0 < esz) :
    ∃ Γ', SR Γ' (σ.put aid (some (.row .own esz xs))) w' ∧ Tr Γ σ w Γ' (σ.put aid (some (.row .own esz xs))) w' ∧ Γ'.A aid ∧ Γ'.ρ aid = w.heap.size ∧ Γ'.ez aid = esz ∧ Γ'.bs aid = c.size ∧ ∀ id, Γ'.A id → Γ.A id ∨ id = aid := by
  let Γ' : Ctx := { C := Γ.C, A := fun id => Γ.A id ∨ id = aid, ρ := fun id => if id = aid then w.heap.size else Γ.ρ id, ez := fun id => if id = aid then esz else Γ.ez id, bs := fun id => if id = aid then c.size else Γ.bs id }
  have hne : ∀ id, Γ.A id → id ≠ aid := fun id h e => hA (e ▸ h)
  have hag : Agree Γ Γ' := ⟨fun _ h => h, fun _ h => .inl h, fun id h => if_neg (hne id h), fun id h => if_neg (hne id h), fun id h => if_neg (hne id h)⟩
  have hold : ∀ b, b < w.heap.size → w'.heap[b]? = w.heap[b]? := fun b hb => by rw [hw, Array.getElem?_push, if_neg (by omega)]
  have hnew : w'.heap[w.heap.size]? = some (.cells c e) := by rw [hw]; simp
  have hsz : w'.heap.size = w.heap.size + 1 := by rw [hw]; simp
  have hsame : SameC Γ w w' := fun b hb => hold b (hs.old b hb)
  have hlt : ∀ k o, σ.obj k = some o → Γ.ρ k < w.heap.size := fun k o hk => by
    cases o with
    | row st ez ys =>
      obtain ⟨⟨_, _, d, t, _, _, h3, _⟩, _⟩ := hs.row _ _ _ _ hk
      exact (Array.getElem?_eq_some_iff.1 h3).1
    | map st kvs => exact absurd hk (hs.nomap _ _ _)
  have hρ : Γ'.ρ aid = w.heap.size := if_pos rfl
  refine ⟨Γ', ⟨fun k st ez ys hk => ?_, fun k st kvs hk => ?_, fun k k' o o' hk hk' hkk => ?_, fun k o hk => ?_, fun b hb => by rw [hsz]; exact Nat.lt_succ_of_lt (hs.old b hb), fun k hk => ?_⟩,
    ⟨hag, fun b hb => .inl hb, fun b hb => ?_, fun b hb _ => hold b hb, hos, htp, hout, by omega⟩, .inr rfl, hρ, if_pos rfl, if_pos rfl, fun id h => h⟩
  · by_cases hki : k = aid
    · subst hki
      rw [obj_put_same hl] at hk
      injection hk with hk
      injection hk with h1 h2 h3
      subst h1 h2 h3
      refine ⟨⟨(if_pos rfl).symm, hz, c, e, us, rest, by rw [hρ]; exact hnew, (if_pos rfl).symm, hc, hr.mono hag hsame⟩, fun _ hC => ?_, fun h => by cases h⟩
      rw [hρ] at hC
      exact absurd (hs.old _ hC) (by omega)
    · rw [obj_put_ne hki] at hk
      obtain ⟨⟨h1, h2, d, t, vs, rs, h3, h4, h5, h6⟩, h7, h8⟩ := hs.row _ _ _ _ hk
      have hA' := hs.live _ _ hk
      refine ⟨⟨by rw [hag.ez _ hA']; exact h1, h2, d, t, vs, rs, by rw [hag.ρ _ hA', hold _ (hlt _ _ hk)]; exact h3, by rw [hag.bs _ hA']; exact h4, h5, h6.mono hag hsame⟩, ?_, ?_⟩
      · rw [hag.ρ _ hA']; exact h7
      · rw [hag.ρ _ hA']; exact h8
  · by_cases hki : k = aid
    · subst hki; rw [obj_put_same hl] at hk; cases hk
    · rw [obj_put_ne hki] at hk; exact hs.nomap _ _ _ hk
  · by_cases hki : k = aid <;> by_cases hki' : k' = aid
    · rw [hki, hki']
    · subst hki
      rw [obj_put_ne hki'] at hk'
      rw [hρ, hag.ρ _ (hs.live _ _ hk')] at hkk
      have := hlt _ _ hk'
      omega
    · subst hki'
      rw [obj_put_ne hki] at hk
      rw [hρ, hag.ρ _ (hs.live _ _ hk)] at hkk
      have := hlt _ _ hk
      omega
    · rw [obj_put_ne hki] at hk
      rw [obj_put_ne hki'] at hk'
      rw [hag.ρ _ (hs.live _ _ hk), hag.ρ _ (hs.live _ _ hk')] at hkk
      exact hs.inj _ _ _ _ hk hk' hkk
  · by_cases hki : k = aid
    · subst hki; exact .inr rfl
    · rw [obj_put_ne hki] at hk; exact .inl (hs.live _ _ hk)
  · rw [length_put]
    rcases hk with hk | hk
    · exact hs.below k hk
    · subst hk; exact hl
  · obtain ⟨k, ez, ys, hk, rfl⟩ := hb
    by_cases hki : k = aid
    · subst hki; rw [hρ]; exact .inr (Nat.le_refl _)
    · rw [obj_put_ne hki] at hk
      rw [hag.ρ _ (hs.live _ _ hk)]
      exact .inl ⟨k, ez, ys, hk, rfl⟩

/-! ### store -/
theorem run_store_row {b o : Nat} {c : Array Value} {e : TypeId} {vs : List Value} (hh : w.heap[b]? = some (.cells c e (0, 0))) (hl : o + vs.length ≤ c.size) (h1 : ∀ v ∈ vs, v.oneCell' = true) :
    (storeCells ⟨b, o, none⟩ vs).run P w = .ok () (w.setRow b (c.toList.take o ++ vs ++ c.toList.drop (o + vs.length)).toArray) := by
  have := run_storeCells_at P b o e vs 0 c w hh (by simpa using hl) h1
  simpa using this
theorem R.setRange {ds es : List D} {us vs : List Value} (h : R Γ w none ds us) (k : R Γ w none es vs) (j : Nat) : R Γ w none (setRange ds j es) (us.take j ++ vs ++ us.drop (j + vs.length)) := by
  unfold Dv.setRange
  rw [k.length]
  exact ((h.take j).append k).append (h.drop _)
theorem upd_elem {x v x' : D} {j : Nat} {us vs : List Value} (hu : upd x j v = some x') (hx : x.elem = true) (hv : v.elem = true) (h : R Γ w none x.cells us) (k : R Γ w none v.cells vs) :
    x'.elem = true ∧ j + vs.length ≤ us.length ∧ R Γ w none x'.cells (us.take j ++ vs ++ us.drop (j + vs.length)) := by
  have hl := h.length
  have hk := k.length
  unfold upd at hu
  split at hu
  · rename_i h0
    obtain ⟨rfl, ha, hlen⟩ := h0
    injection hu with hu
    subst hu
    have hul : us.length = vs.length := by omega
    refine ⟨hv, by omega, ?_⟩
    simp only [List.take_zero, List.nil_append, Nat.zero_add, ← hul, List.drop_length, List.append_nil]
    exact k
  · split at hu
    · rename_i ds
      split at hu
      · rename_i hle
        injection hu with hu
        subst hu
        simp only [D.cells] at hl h
        refine ⟨?_, by omega, h.setRange k j⟩
        have h1 := elem_cells hx
        have h2 := elem_cells hv
        simp only [D.elem, Dv.setRange, D.cells, List.all_append, Bool.and_eq_true, List.all_eq_true] at h1 h2 ⊢
        exact ⟨⟨fun d hd => h1 d (List.mem_of_mem_take hd), h2⟩, fun d hd => h1 d (List.mem_of_mem_drop hd)⟩
      · cases hu
    · cases hu
theorem store_ok {t : TypeId} {d v : D} {u z : Value} {r : Store × Foot} (hs : SR Γ σ w) (hd : R1 Γ w d u) (hv : R1 Γ w v z) (h : evStore (ti P t) d v σ = some r) :
    ∃ w', (Instr.storeAt t u z).run P w = .ok () w' ∧ SR Γ r.1 w' ∧ Tr Γ σ w Γ r.1 w' := by
  unfold evStore at h
  split at h
  · rename_i id i j
    split at h
    · rename_i esz xs ho
      split at h
      · rename_i x hx
        split at h
        · rename_i hok
          obtain ⟨x', hu, rfl⟩ := Option.map_eq_some_iff.1 h
          obtain ⟨hA, rfl⟩ := R1.ptr.1 hd
          simp only [okVal, Bool.and_eq_true, beq_iff_eq] at hok
          obtain ⟨⟨⟨hk, hve⟩, _⟩, hvl⟩ := hok
          obtain ⟨dd, hdd⟩ := tk_some hk
          obtain ⟨inf, hi⟩ := info_of hdd
          obtain ⟨⟨he, hz, c, e, us, rest, hh, hb, hc, ⟨hr, hone⟩⟩, _⟩ := hs.row _ _ _ _ ho
          obtain ⟨hxe, hxl, hxc⟩ := hr.getE hx
          have hvc := hv.cells hve
          have hzs : z.cells.toList.length = v.cells.length := hvc.length.symm
          obtain ⟨hxe', hle, hxc'⟩ := upd_elem hu hxe hve hxc hvc
          have hilt : i < xs.length := (List.getElem?_eq_some_iff.1 hx).1
          have hul := hr.lengthE
          have hblk : i * esz + esz ≤ us.length := by rw [hul, ← Nat.succ_mul]; exact Nat.mul_le_mul_right _ hilt
          have hexl : ((us.drop (i * esz)).take esz).length = esz := by rw [List.length_take, List.length_drop]; omega
          rw [hexl] at hle
          have hcl : c.toList.length = us.length + rest.length := by rw [hc, List.length_append]
          have hcs : c.size = us.length + rest.length := by simpa using hcl
          -- the row behind the store
          have hrow := run_store_row (P := P) (o := i * esz + j) (vs := z.cells.toList) hh (by rw [hzs]; omega) (all_oneCell hvc (elem_cells hve))
          have hw := hs.write (c' := (c.toList.take (i * esz + j) ++ z.cells.toList ++ c.toList.drop (i * esz + j + z.cells.toList.length)).toArray) (xs' := xs.set i x')
            (us := us.take (i * esz) ++ (((us.drop (i * esz)).take esz).take j ++ z.cells.toList ++ ((us.drop (i * esz)).take esz).drop (j + z.cells.toList.length)) ++ us.drop (i * esz + esz)) (rest := rest)
            ho hh (by rw [← hb]; simp only [List.size_toArray, List.length_append, List.length_take, List.length_drop]; omega) (by
              show c.toList.take (i * esz + j) ++ z.cells.toList ++ c.toList.drop (i * esz + j + z.cells.toList.length) = _
              rw [hc]
              exact seg' us rest z.cells.toList (i * esz) esz j hblk (by rw [hzs]; omega))
            ⟨hr.setE hilt hxe' hxc' (by simp only [List.length_append, List.length_take, List.length_drop]; omega), hone⟩
          refine ⟨_, ?_, hw.1, hw.2⟩
          have hsz : z.cells.size = inf.size := by rw [← ti_sz hi, ← hvl, ← hzs]; simp
          simp only [Instr.storeAt, Instr.sureAddr, adr, storeVar, ← he, Sem.run_bind, Sem.run_pure, Result.andThen_ok, run_sizeOf hi, hsz, ne_eq, not_true_eq_false, if_false, hrow]
        · cases h
      · cases h
    · cases h
  · cases h
end
end Go.Proofs.Ytgibpomhiilehaa.Dv
