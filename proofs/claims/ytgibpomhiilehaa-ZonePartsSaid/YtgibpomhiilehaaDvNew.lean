/- Each operation of the evaluator is the machine's: new objects, append, copy, clear. -/
import Derived.Test.YtgibpomhiilehaaDvWr
set_option linter.unusedVariables false
set_option linter.unusedSimpArgs false
namespace Go.Proofs.Ytgibpomhiilehaa.Dv
open Go

section
variable {P : Program} {Γ Γ' : Ctx} {w w' : World} {σ σ' : Store}

/-- What a new object leaves. -/
theorem SR.newPtr (hs : SR Γ σ w) {aid : Nat} (hA : ¬ Γ.A aid) (hl : aid < σ.length) {t : TypeId} {v : D} {u : Value} (hv : R1 Γ w v u) (he : v.elem = true) (hz : 0 < v.cells.length) :
    ValOk Γ σ w (.ok (.pointer (some ⟨w.heap.size, 0, none⟩)) (w.alloc (.cells u.cells t))) (.ptr aid 0 0) (σ.put aid (some (.row .own v.cells.length [v]))) (some aid) := by
  have hc := hv.cells he
  have hr : R Γ w (some v.cells.length) [v] (u.cells.toList ++ []) := .elem he hc hc.length.symm (.nil _)
  rw [List.append_nil] at hr
  obtain ⟨Γ', h1, h2, h3, h4, h5, h6, h7⟩ := hs.new hA hl (w' := w.alloc (.cells u.cells t)) (c := u.cells) (e := t) rfl rfl rfl rfl (us := u.cells.toList) (rest := []) (by simp) ⟨hr, by simp⟩ hz
  refine ⟨_, Γ', _, rfl, R1.ptr.2 ⟨h3, by simp [adr, h4]⟩, h1, h2, fun id hid => ?_⟩
  rcases h7 id hid with h | h
  · exact .inl h
  · exact .inr (by rw [h])
theorem alloc_ok (hs : SR Γ σ w) {aid : Nat} (hA : ¬ Γ.A aid) (hl : aid < σ.length) {t : TypeId} (h : (ti P t).zero.elem = true) (h2 : (ti P t).zero.cells.length = (ti P t).sz) (h3 : 0 < (ti P t).sz) :
    ValOk Γ σ w ((Instr.alloc t true (.tuple #[])).run P w) (.ptr aid 0 0) (σ.put aid (some (.row .own (ti P t).sz [(ti P t).zero]))) (some aid) := by
  obtain ⟨i, hi⟩ := info_of_sz h3
  obtain ⟨z, hz, hzz⟩ := zero_of hi h
  have hrun : (Instr.alloc t true (.tuple #[])).run P w = .ok (.pointer (some ⟨w.heap.size, 0, none⟩)) (w.alloc (.cells z.cells t)) := by
    simp [Instr.alloc, zeroValue, typeInfo, hi, hz, newVar, newRow]
  rw [hrun, ← h2]
  exact hs.newPtr hA hl (hzz ▸ ofValue_R1 z) h (by omega)
theorem box_ok (hs : SR Γ σ w) {aid : Nat} (hA : ¬ Γ.A aid) (hl : aid < σ.length) {t : TypeId} {v : D} {u : Value} (hv : R1 Γ w v u) (he : v.elem = true) (hz : 0 < v.cells.length) :
    ValOk Γ σ w ((Instr.box t u).run P w) (.ptr aid 0 0) (σ.put aid (some (.row .own v.cells.length [v]))) (some aid) := by
  have hrun : (Instr.box t u).run P w = .ok (.pointer (some ⟨w.heap.size, 0, none⟩)) (w.alloc (.cells u.cells t)) := by simp [Instr.box, newVar, newRow]
  rw [hrun]
  exact hs.newPtr hA hl hv he hz

/-! ### cells filled -/
theorem foldl_set (off : Nat) : ∀ (vs : List Value) (s : Nat) (cs : Array Value), off + s + vs.length ≤ cs.size →
    ((vs.zipIdx s).foldl (fun cs (x : Value × Nat) => cs.setIfInBounds (off + x.2) x.1) cs).toList = cs.toList.take (off + s) ++ vs ++ cs.toList.drop (off + s + vs.length)
  | [], s, cs, _ => by simp
  | v :: vs, s, cs, h => by
    have ih := foldl_set off vs (s + 1) (cs.setIfInBounds (off + s) v) (by simp at h ⊢; omega)
    simp only [List.zipIdx_cons, List.foldl_cons]
    rw [ih]
    have e := list_seg_step cs.toList (off + s) v vs (by simp at h ⊢; omega)
    simpa [Array.toList_setIfInBounds, Nat.add_assoc] using e
theorem fill_set (off : Nat) (v : Value) (cs : Array Value) (h : off + v.cells.size ≤ cs.size) :
    (v.cells.zipIdx.foldl (fun cs (c, j) => cs.setIfInBounds (off + j) c) cs).toList = cs.toList.take off ++ v.cells.toList ++ cs.toList.drop (off + v.cells.size) := by
  have := foldl_set off v.cells.toList 0 cs (by simpa using h)
  rw [← Array.foldl_toList, Array.toList_zipIdx]
  simpa using this
theorem fill_ok {place : Nat → Option (Nat × Nat)} : ∀ {parts : List (Nat × D)} {vals : List (Nat × Value)} {ds ds' : List D} {cs : Array Value},
    fillD ds (parts.map fun p => (place p.1, p.2)) = some ds' → parts.map (·.1) = vals.map (·.1) → R Γ w none (parts.map (·.2)) (vals.map (·.2)) → R Γ w none ds cs.toList → ds.all D.leaf = true →
    ∃ cs', Instr.fill place cs vals = some cs' ∧ R Γ w none ds' cs'.toList ∧ ds'.all D.leaf = true
  | [], vals, ds, ds', cs, h, hi, hv, hr, hl => by
    cases vals with
    | nil => simp only [List.map_nil, fillD, Option.some.injEq] at h; subst h; exact ⟨cs, rfl, hr, hl⟩
    | cons _ _ => simp at hi
  | p :: parts, vals, ds, ds', cs, h, hi, hv, hr, hl => by
    cases vals with
    | nil => simp at hi
    | cons q vals =>
      simp only [List.map_cons, List.cons.injEq] at hi
      obtain ⟨hi1, hi2⟩ := hi
      obtain ⟨v, vs', hvv, h1, h2⟩ := R.cons_inv (by simpa using hv)
      simp only [List.cons.injEq] at hvv
      obtain ⟨rfl, rfl⟩ := hvv
      simp only [List.map_cons] at h
      obtain ⟨i, d⟩ := p
      obtain ⟨i', z⟩ := q
      simp only at hi1 h1 h
      subst hi1
      cases hp : place i with
      | none => rw [hp] at h; simp [fillD] at h
      | some os =>
        obtain ⟨off, size⟩ := os
        rw [hp] at h
        simp only [fillD] at h
        split at h
        · rename_i hc
          simp only [Bool.and_eq_true, beq_iff_eq, decide_eq_true_eq] at hc
          obtain ⟨⟨he, hs⟩, hb⟩ := hc
          have hcz := h1.cells_size he
          have hcs : cs.size = ds.length := by simpa using hr.length.symm
          have hfs := fill_set off z cs (by omega)
          have hr' : R Γ w none (setRange ds off d.cells) (z.cells.zipIdx.foldl (fun cs (c, j) => cs.setIfInBounds (off + j) c) cs).toList := by
            rw [hfs]
            have := hr.setRange (h1.cells he) off
            simpa using this
          have hl' : (setRange ds off d.cells).all D.leaf = true := by
            have h2 := elem_cells he
            simp only [setRange, List.all_append, Bool.and_eq_true, List.all_eq_true] at hl h2 ⊢
            exact ⟨⟨fun x hx => hl x (List.mem_of_mem_take hx), h2⟩, fun x hx => hl x (List.mem_of_mem_drop hx)⟩
          obtain ⟨cs', h3, h4, h5⟩ := fill_ok h hi2 h2 hr' hl'
          refine ⟨cs', ?_, h4, h5⟩
          unfold Instr.fill
          simp only [hp]
          rw [if_neg (by simp; omega)]
          exact h3
        · cases h
theorem getElem?_flatten_replicate {α : Type} (l : List α) (hl : 0 < l.length) : ∀ (n k : Nat), (List.replicate n l).flatten[k]? = if k < n * l.length then l[k % l.length]? else none
  | 0, k => by simp
  | n + 1, k => by
    rw [List.replicate_succ, List.flatten_cons, List.getElem?_append]
    by_cases hk : k < l.length
    · rw [if_pos hk, Nat.mod_eq_of_lt hk, if_pos (by rw [Nat.add_mul]; omega)]
    · rw [if_neg hk, getElem?_flatten_replicate l hl n (k - l.length), ← Nat.mod_eq_sub_mod (by omega)]
      have : (k - l.length < n * l.length) ↔ (k < (n + 1) * l.length) := by rw [Nat.add_mul]; omega
      simp only [this]
theorem toList_madeCells (z : Array Value) (hz : 0 < z.size) (n : Nat) : (madeCells z (n * z.size)).toList = (List.replicate n z.toList).flatten := by
  apply List.ext_getElem?
  intro k
  rw [getElem?_flatten_replicate _ (by simpa using hz)]
  simp only [madeCells, Array.toList_map, Array.toList_range, List.getElem?_map, Array.length_toList, Array.getElem?_toList]
  by_cases hk : k < n * z.size
  · have hm : k % z.size < z.size := Nat.mod_lt _ hz
    rw [if_pos hk, List.getElem?_range hk]
    simp [hm, getElem!_pos]
  · rw [if_neg hk, List.getElem?_eq_none (by simpa using hk)]
    rfl
theorem fillE_ok {esz : Nat} (hz : 0 < esz) : ∀ {parts : List (Nat × D)} {vals : List (Nat × Value)} {xs xs' : List D} {cs : Array Value},
    fillE esz xs parts = some xs' → parts.map (·.1) = vals.map (·.1) → R Γ w none (parts.map (·.2)) (vals.map (·.2)) → R Γ w (some esz) xs cs.toList →
    ∃ cs', Instr.fill (fun i => some (i * esz, esz)) cs vals = some cs' ∧ R Γ w (some esz) xs' cs'.toList ∧ xs'.length = xs.length
  | [], vals, xs, xs', cs, h, hi, hv, hr => by
    cases vals with
    | nil => simp only [fillE, Option.some.injEq] at h; subst h; exact ⟨cs, rfl, hr, rfl⟩
    | cons _ _ => simp at hi
  | p :: parts, vals, xs, xs', cs, h, hi, hv, hr => by
    cases vals with
    | nil => simp at hi
    | cons q vals =>
      simp only [List.map_cons, List.cons.injEq] at hi
      obtain ⟨hi1, hi2⟩ := hi
      obtain ⟨v, vs', hvv, h1, h2⟩ := R.cons_inv (by simpa using hv)
      simp only [List.cons.injEq] at hvv
      obtain ⟨rfl, rfl⟩ := hvv
      obtain ⟨i, d⟩ := p
      obtain ⟨i', z⟩ := q
      simp only at hi1 h1
      subst hi1
      simp only [fillE] at h
      split at h
      · rename_i hc
        simp only [Bool.and_eq_true, beq_iff_eq, decide_eq_true_eq] at hc
        obtain ⟨⟨he, hs⟩, hb⟩ := hc
        have hcz := h1.cells_size he
        have hcs : cs.size = xs.length * esz := by simpa using hr.lengthE
        have hle : i * esz + esz ≤ xs.length * esz := by rw [← Nat.succ_mul]; exact Nat.mul_le_mul_right _ hb
        have hfs := fill_set (i * esz) z cs (by omega)
        have hr' : R Γ w (some esz) (xs.set i d) (z.cells.zipIdx.foldl (fun cs (c, j) => cs.setIfInBounds (i * esz + j) c) cs).toList := by
          rw [hfs, hcz, hs]
          exact hr.setE hb he (h1.cells he) (by simp; omega)
        obtain ⟨cs', h3, h4, h5⟩ := fillE_ok hz h hi2 h2 hr'
        refine ⟨cs', ?_, h4, by rw [h5, List.length_set]⟩
        unfold Instr.fill
        simp only
        rw [if_neg (by simp; omega)]
        exact h3
      · cases h
/-- A new row as a slice. -/
theorem SR.newMs (hs : SR Γ σ w) {aid : Nat} (hA : ¬ Γ.A aid) (hl : aid < σ.length) {c : Array Value} {e : TypeId} (hw : w'.heap = w.heap.push (.cells c e)) (hos : w'.os = w.os) (htp : w'.tape = w.tape) (hout : w'.output = w.output)
    {esz : Nat} {xs : List D} {us rest : List Value} (hc : c.toList = us ++ rest) (hr : RE Γ w esz xs us rest) (hz : 0 < esz) (n cap c' : Nat) (ex : Bool) (h1 : n ≤ c') (h2 : cap ≤ c') (h3 : ex = true → c' = cap) (h4 : c' * esz ≤ c.size) (h5 : c' ≤ maxLen) :
    ValOk Γ σ w (.ok (.slice (some ⟨w.heap.size, 0, none⟩) n c') w') (.ms aid 0 n cap ex) (σ.put aid (some (.row .own esz xs))) (some aid) := by
  obtain ⟨Γ', k1, k2, k3, k4, k5, k6, k7⟩ := hs.new hA hl hw hos htp hout hc hr hz
  refine ⟨_, Γ', _, rfl, R1.ms.2 ⟨k3, _, _, rfl, h1, h2, h3, .inr (by simp [adr, k4]), by rw [k5, k6]; simpa using h4, h5⟩, k1, k2, fun id hid => ?_⟩
  rcases k7 id hid with h | h
  · exact .inl h
  · exact .inr (by rw [h])
theorem buildSlice_ok (hs : SR Γ σ w) {aid : Nat} (hA : ¬ Γ.A aid) (hl : aid < σ.length) {t : TypeId} {n : Nat} {parts : List (Nat × D)} {vals : List (Nat × Value)} {r : D × Store × Foot}
    (hi : parts.map (·.1) = vals.map (·.1)) (hv : R Γ w none (parts.map (·.2)) (vals.map (·.2))) (h : evBuildSlice P t n parts aid σ = some r) :
    ValOk Γ σ w ((Instr.buildSlice t n vals.toArray).run P w) r.1 r.2.1 (some aid) := by
  unfold evBuildSlice at h
  split at h
  · rename_i e hk
    simp only at h
    split at h
    · rename_i hc
      obtain ⟨hz, hb, he, hl2⟩ := hc
      obtain ⟨xs, hx, rfl⟩ := Option.map_eq_some_iff.1 h
      have hu := tk_sl hk
      obtain ⟨i, hinf⟩ := info_of_sz hz
      obtain ⟨z, hzz, hzd⟩ := zero_of hinf he
      have hsz := ti_sz hinf
      have hr1 : R1 Γ w (ti P e).zero z := hzd ▸ ofValue_R1 z
      have hzc := hr1.cells_size he
      have hzs : z.cells.size = i.size := by omega
      have hrep : R Γ w (some (ti P e).sz) (List.replicate n (ti P e).zero) (madeCells z.cells (n * z.cells.size)).toList := by
        rw [toList_madeCells _ (by omega)]
        exact R.replicateE he (hr1.cells he) (by simp; omega) n
      obtain ⟨cs', h3, h4, h5⟩ := fillE_ok (Γ := Γ) (w := w) hz hx hi hv hrep
      have hmade : madeCells z.cells (n * z.cells.size) = (Array.range (n * i.size)).map (z.cells[· % z.cells.size]!) := by unfold madeCells; simp only [hzs]
      have hrun : (Instr.buildSlice t n vals.toArray).run P w = .ok (.slice (some ⟨w.heap.size, 0, none⟩) n n) (w.alloc (.cells cs' e)) := by
        rw [hmade, hsz] at h3
        have hb' : ¬ (16777216 < n * i.size) := by rw [hsz] at hb; omega
        by_cases h0 : n * i.size = 0
        · have hn : n = 0 := by rcases Nat.mul_eq_zero.1 h0 with h | h <;> omega
          subst hn
          have hr0 : Array.range 0 = #[] := rfl
          simp only [Nat.zero_mul, hr0, Array.map_empty] at h3
          simp [Instr.buildSlice, run_underlying hu, run_sizeOf hinf, hr0, h3, newRow]
        · simp [Instr.buildSlice, run_underlying hu, run_sizeOf hinf, hb', h0, zeroValue, typeInfo, hinf, hzz, h3, newRow]
      rw [hrun]
      have hlen := h4.lengthE
      rw [h5, List.length_replicate] at hlen
      refine hs.newMs hA hl (w' := w.alloc (.cells cs' e)) rfl rfl rfl rfl (us := cs'.toList) (rest := []) (by simp) ⟨h4, by simp⟩ hz n n n true (Nat.le_refl _) (Nat.le_refl _) (fun _ => rfl) (by simp at hlen; omega) ?_
      have : n ≤ n * (ti P e).sz := Nat.le_mul_of_pos_right _ hz
      simp only [maxLen]
      omega
    · cases h
  · cases h
theorem makeSlice_ok (hs : SR Γ σ w) {aid : Nat} (hA : ¬ Γ.A aid) (hl : aid < σ.length) {t : TypeId} {l c : D} {ul uc : Value} {r : D × Store × Foot} (h1 : R1 Γ w l ul) (h2 : R1 Γ w c uc) (h : evMakeSlice P t l c aid σ = some r) :
    ValOk Γ σ w ((Instr.makeSlice t ul uc).run P w) r.1 r.2.1 (some aid) := by
  unfold evMakeSlice at h
  split at h
  · rename_i e kl n kc m hk
    simp only at h
    split at h
    · rename_i hc
      obtain ⟨h0, hnm, hbytes, hm, hz, he, hl2⟩ := hc
      injection h with h
      subst h
      rw [R1.int.1 h1, R1.int.1 h2]
      have hu := tk_sl hk
      obtain ⟨i, hinf⟩ := info_of_sz hz
      obtain ⟨z, hzz, hzd⟩ := zero_of hinf he
      have hsz := ti_sz hinf
      have hr1 : R1 Γ w (ti P e).zero z := hzd ▸ ofValue_R1 z
      have hzc := hr1.cells_size he
      have hzs : z.cells.size = i.size := by omega
      rw [ti_bytes hinf] at hbytes
      rw [run_make w t e i z hu hinf hzz kl kc n m h0 hnm (by rw [Int.mul_comm]; omega) (by omega)]
      have hrep : R Γ w (some (ti P e).sz) (List.replicate m.toNat (ti P e).zero) (madeCells z.cells (m.toNat * z.cells.size)).toList := by
        rw [toList_madeCells _ (by omega)]
        exact R.replicateE he (hr1.cells he) (by simp; omega) m.toNat
      rw [hzs] at hrep
      refine hs.newMs hA hl (w' := w.alloc (.cells (madeCells z.cells (m.toNat * i.size)) e)) rfl rfl rfl rfl (us := (madeCells z.cells (m.toNat * i.size)).toList) (rest := []) (by simp) ⟨hrep, by simp⟩ hz n.toNat m.toNat m.toNat true (by omega) (Nat.le_refl _) (fun _ => rfl) ?_ ?_
      · rw [size_madeCells, hsz]; exact Nat.le_refl _
      · simp only [maxLen]; omega
    · cases h
  · cases h
end
end Go.Proofs.Ytgibpomhiilehaa.Dv
