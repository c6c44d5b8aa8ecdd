/- Each operation of the evaluator is the machine's: all together. -/
import Derived.Test.YtgibpomhiilehaaDvOne
import Derived.Laws.BytesString
set_option linter.unusedVariables false
set_option linter.unusedSimpArgs false
namespace Go.Proofs.Ytgibpomhiilehaa.Dv
open Go

section
variable {P : Program} {Γ Γ' : Ctx} {w w' : World} {σ σ' : Store}

/-! ### conversions -/
theorem bytesD_R {xs : List D} : ∀ {ns : List Int} {us : List Value}, bytesD xs = some ns → R Γ w (some 1) xs us → us = ns.map (Value.int .u8) := by
  induction xs with
  | nil => intro ns us h hr; injection h with h; subst h; rw [hr.nil_inv]; rfl
  | cons x xs ih =>
    intro ns us h hr
    obtain ⟨a, b, rfl, hx, h1, hl, h2⟩ := hr.consE_inv
    unfold bytesD at h
    split at h
    · rename_i h0; cases h0
    · rename_i n r h0
      injection h0 with e1 e2
      subst e1 e2
      obtain ⟨l, hl', rfl⟩ := Option.map_eq_some_iff.1 h
      obtain ⟨v, vs, rfl, g1, g2⟩ := R.cons_inv h1
      rw [g2.nil_inv, R1.int.1 g1, ih hl' h2]
      rfl
    · cases h
theorem conv_ok (hs : SR Γ σ w) {src dst : TypeId} {x : D} {u : Value} {r : D × Foot} (hx : R1 Γ w x u) (h : evConv P src dst x σ = some r) : ∃ z, (convert src dst u).run P w = .ok z w ∧ R1 Γ w r.1 z := by
  unfold evConv at h
  split at h
  · cases h
  rename_i hkn
  have hkn : (ti P src).k.known = true := by cases hq : (ti P src).k.known <;> simp_all
  obtain ⟨ds, hds⟩ := tk_some hkn
  split at h
  · rename_i k kk n hk
    injection h with h; subst h
    obtain rfl := R1.int.1 hx
    exact ⟨.int k (k.wrap n), by simp [convert, run_underlying hds, run_underlying (tk_int hk), Conv.intToInt], R1.int.2 rfl⟩
  · rename_i s hk
    injection h with h; subst h
    obtain rfl := R1.str.1 hx
    exact ⟨.string s, by simp [convert, run_underlying hds, run_underlying (tk_str hk)], R1.str.2 rfl⟩
  · rename_i id off len cap ex hk
    split at h
    · rename_i e hse
      split at h
      · rename_i st esz xs hke ho
        split at h
        · rename_i hc
          obtain ⟨rfl, hle⟩ := hc
          obtain ⟨ns, hns, rfl⟩ := Option.map_eq_some_iff.1 h
          obtain ⟨hA, a, c, rfl, k1, k2, k3, k4, k5, k6⟩ := R1.ms.1 hx
          obtain ⟨⟨he, hz, cc, te, us, rest, hh, hb, hcc, ⟨hr, _⟩⟩, _⟩ := hs.row _ _ _ _ ho
          have hr2 := ((hr.takeE off (by omega)).2.takeE len (by rw [List.length_drop]; omega)).1
          have hcells := bytesD_R hns hr2
          have hlen : ns.length = len := by
            have := hr2.lengthE
            rw [hcells, List.length_map, List.length_take, List.length_drop] at this
            omega
          rw [run_convert_bytes_string w src dst e a len c (tk_sl hse) (tk_int hke) (tk_str hk)]
          refine ⟨.string (pushAll ns), ?_, R1.str.2 rfl⟩
          rcases k4 with k4 | k4
          · have h0 : len = 0 := by omega
            subst h0
            have : ns = [] := List.length_eq_zero_iff.1 hlen
            subst this
            cases a with
            | none => simp [Conv.bytesToString, pushAll]
            | some a => exact run_bytesToString w a 0 c [] (run_loadCells_list (P := P) w a [] (by simp))
          · subst k4
            unfold pushAll
            refine run_bytesToString w _ len c ns ?_
            have hl := run_loadCells_list (P := P) w (adr Γ id off 0) (ns.map (Value.int .u8)) (fun j v hj => by
              rw [← hcells, List.getElem?_take] at hj
              split at hj
              · rw [List.getElem?_drop] at hj
                simp only [adr, Nat.add_zero, Addr.add_lit, ← he]
                rw [cell_of_row w _ _ cc te (0, 0) hh]
                have hk' : (us ++ rest)[off * 1 + j]? = some v := by rw [List.getElem?_append_left (List.getElem?_eq_some_iff.1 hj).1]; exact hj
                rw [← hcc] at hk'
                simpa using hk'
              · cases hj)
            rw [List.length_map, hlen] at hl
            exact hl
        · cases h
      · cases h
    · cases h
  · cases h

/-! ### min, max -/
theorem max2_run {k : IntKind} (a b : Int) : (Builtin.max2 (.int k a) (.int k b)).run P w = .ok (.int k (max a b)) w := by
  simp only [Builtin.max2, Sem.run_pure]
  congr 2
  omega
theorem min2_run {k : IntKind} (a b : Int) : (Builtin.min2 (.int k a) (.int k b)).run P w = .ok (.int k (min a b)) w := by
  simp only [Builtin.min2, Sem.run_pure]
  congr 2
  omega
theorem ints_inv {k : IntKind} {a : Int} {ds : List D} {us : List Value} (h : R Γ w none (.int k a :: ds) us) : ∃ vs, us = .int k a :: vs ∧ R Γ w none ds vs := by
  obtain ⟨v, vs, rfl, h1, h2⟩ := h.cons_inv
  exact ⟨vs, by rw [R1.int.1 h1], h2⟩
theorem minmax_ok {f : Int → Int → Int} {g : Value → Value → Sem Value} (hg : ∀ {k : IntKind} (a b : Int), (g (.int k a) (.int k b)).run P w = .ok (.int k (f a b)) w) {ds : List D} {us : List Value} {d : D} (hr : R Γ w none ds us)
    (h : minmax f ds = some d) : ∃ x rest z, us = x :: rest ∧ (rest.foldlM g x).run P w = .ok z w ∧ R1 Γ w d z := by
  unfold minmax at h
  split at h
  · split at h
    · rename_i hk
      subst hk
      injection h with h; subst h
      obtain ⟨v1, rfl, r1⟩ := ints_inv hr
      obtain ⟨v2, rfl, r2⟩ := ints_inv r1
      rw [r2.nil_inv]
      exact ⟨_, _, _, rfl, by simp [hg], R1.int.2 rfl⟩
    · cases h
  · split at h
    · rename_i hk
      obtain ⟨rfl, rfl⟩ := hk
      injection h with h; subst h
      obtain ⟨v1, rfl, r1⟩ := ints_inv hr
      obtain ⟨v2, rfl, r2⟩ := ints_inv r1
      obtain ⟨v3, rfl, r3⟩ := ints_inv r2
      rw [r3.nil_inv]
      exact ⟨_, _, _, rfl, by simp [hg], R1.int.2 rfl⟩
    · cases h
  · split at h
    · rename_i hk
      obtain ⟨rfl, rfl, rfl, rfl, rfl⟩ := hk
      injection h with h; subst h
      obtain ⟨v1, rfl, r1⟩ := ints_inv hr
      obtain ⟨v2, rfl, r2⟩ := ints_inv r1
      obtain ⟨v3, rfl, r3⟩ := ints_inv r2
      obtain ⟨v4, rfl, r4⟩ := ints_inv r3
      obtain ⟨v5, rfl, r5⟩ := ints_inv r4
      obtain ⟨v6, rfl, r6⟩ := ints_inv r5
      rw [r6.nil_inv]
      exact ⟨_, _, _, rfl, by simp [hg], R1.int.2 rfl⟩
    · cases h
  · cases h

/-! ### literals -/
theorem places_run : ∀ (fl : List Field), (∀ f ∈ fl, (ti P f.type).k.known = true) → (fl.mapM fun f => (Prod.mk f.offset <$> sizeOf f.type : Sem (Nat × Nat))).run P w = .ok (fl.map fun f => (f.offset, (ti P f.type).sz)) w
  | [], _ => rfl
  | f :: fl, h => by
    obtain ⟨d, hd⟩ := tk_some (h f (by simp))
    obtain ⟨i, hi⟩ := info_of hd
    have ih := places_run fl (fun g hg => h g (by simp [hg]))
    rw [List.mapM_cons]
    simp [run_sizeOf hi, ti_sz hi, ih]
theorem build_ok {t : TypeId} {parts : List (Nat × D)} {vals : List (Nat × Value)} {d : D} (hi : parts.map (·.1) = vals.map (·.1)) (hv : R Γ w none (parts.map (·.2)) (vals.map (·.2))) (h : evBuild P t parts = some d) :
    ∃ z, (Instr.build t vals.toArray).run P w = .ok z w ∧ R1 Γ w d z := by
  unfold evBuild at h
  simp only at h
  split at h
  · rename_i fs zs hk hz
    split at h
    · rename_i hc
      simp only [Bool.and_eq_true, beq_iff_eq] at hc
      obtain ⟨⟨hl, hs⟩, hkn⟩ := hc
      obtain ⟨ds, hf, rfl⟩ := Option.map_eq_some_iff.1 h
      obtain ⟨fields, hu, rfl⟩ := tk_st hk
      obtain ⟨inf, hinf⟩ := info_of hu
      obtain ⟨z, hzz, hzd⟩ := zero_of hinf (by rw [hz]; exact hl)
      have hr1 : R1 Γ w (.agg zs) z := hz ▸ hzd ▸ ofValue_R1 z
      obtain ⟨us, rfl, hru, _⟩ := R1.agg.1 hr1
      have hpl := places_run (P := P) (w := w) fields.toList (fun f hf => by
        simp only [List.all_map, List.all_eq_true, Function.comp] at hkn
        exact hkn f hf)
      have hplA : (fields.mapM fun f => (Prod.mk f.offset <$> sizeOf f.type : Sem (Nat × Nat))).run P w = .ok (fields.toList.map fun f => (f.offset, (ti P f.type).sz)).toArray w := by
        rw [Array.mapM_eq_mapM_toList, Sem.run_map, hpl, Result.andThen_ok]
      have hfe : (parts.map fun p => (((fields.toList.map fun f => (f.offset, f.type))[p.1]?).map fun f => (f.1, (ti P f.2).sz), p.2)) =
          parts.map fun p => ((fun i => (fields.toList.map fun f => (f.offset, (ti P f.type).sz)).toArray[i]?) p.1, p.2) := by
        apply List.map_congr_left
        intro p _
        simp only [List.getElem?_map, Option.map_map, List.getElem?_toArray]
        rfl
      rw [hfe] at hf
      obtain ⟨cs, hfill, hrc, hlc⟩ := fill_ok (Γ := Γ) (w := w) (cs := us.toArray) hf hi hv (by simpa using hru) hl
      refine ⟨.agg cs, ?_, R1.agg.2 ⟨cs.toList, by simp, hrc, hlc⟩⟩
      generalize (fields.toList.map fun f => (f.offset, (ti P f.type).sz)).toArray = pls at hplA hfill
      simp [Instr.build, zeroValue, typeInfo, hinf, hzz, run_underlying hu, Value.cells, hplA, hfill]
    · cases h
  · rename_i n e zs hk hz
    split at h
    · rename_i hc
      simp only [Bool.and_eq_true, beq_iff_eq] at hc
      obtain ⟨⟨hl, hs⟩, hkn⟩ := hc
      obtain ⟨ds, hf, rfl⟩ := Option.map_eq_some_iff.1 h
      have hu := tk_arr hk
      obtain ⟨inf, hinf⟩ := info_of hu
      obtain ⟨z, hzz, hzd⟩ := zero_of hinf (by rw [hz]; exact hl)
      have hr1 : R1 Γ w (.agg zs) z := hz ▸ hzd ▸ ofValue_R1 z
      obtain ⟨us, rfl, hru, _⟩ := R1.agg.1 hr1
      obtain ⟨de, hde⟩ := tk_some hkn
      obtain ⟨ie, hie⟩ := info_of hde
      rw [ti_sz hie] at hf
      obtain ⟨cs, hfill, hrc, hlc⟩ := fill_ok (Γ := Γ) (w := w) (cs := us.toArray) (place := fun i => some (i * ie.size, ie.size)) hf hi hv (by simpa using hru) hl
      refine ⟨.agg cs, ?_, R1.agg.2 ⟨cs.toList, by simp, hrc, hlc⟩⟩
      simp [Instr.build, zeroValue, typeInfo, hinf, hzz, run_underlying hu, Value.cells, run_sizeOf hie, hfill]
    · cases h
  · cases h

/-! ### builtins -/
theorem len_ok {t ty : TypeId} {x : D} {u : Value} {r : D × Store × Foot} {aid : Nat} (hx : R1 Γ w x u) (h : evBuiltin P .len [t] [x] aid σ = some r) : ∃ z, (Builtin.len_ #[t] ty #[u]).run P w = .ok z w ∧ R1 Γ w r.1 z ∧ r.2.1 = σ := by
  unfold evBuiltin at h
  simp only at h
  split at h
  · rename_i hk
    split at h
    · rename_i s
      injection h with h; subst h
      obtain rfl := R1.str.1 hx
      exact ⟨.int .i64 s.size, by simp [Builtin.len_, run_underlying (tk_str hk), goInt], R1.int.2 rfl, rfl⟩
    · cases h
  · rename_i e hk
    split at h
    · rename_i full xs
      injection h with h; subst h
      obtain ⟨a, c, sz, us, rfl, _⟩ := R1.sl.1 hx
      exact ⟨.int .i64 xs.length, by simp [Builtin.len_, run_underlying (tk_sl hk), goInt], R1.int.2 rfl, rfl⟩
    · rename_i id off len cap ex
      injection h with h; subst h
      obtain ⟨_, a, c, rfl, _⟩ := R1.ms.1 hx
      exact ⟨.int .i64 len, by simp [Builtin.len_, run_underlying (tk_sl hk), goInt], R1.int.2 rfl, rfl⟩
    · cases h
  · cases h
theorem cap_ok {t ty : TypeId} {x : D} {u : Value} {r : D × Store × Foot} {aid : Nat} (hx : R1 Γ w x u) (h : evBuiltin P .cap [t] [x] aid σ = some r) : ∃ z, (Builtin.cap_ #[t] ty #[u]).run P w = .ok z w ∧ R1 Γ w r.1 z ∧ r.2.1 = σ := by
  unfold evBuiltin at h
  simp only at h
  split at h
  · rename_i e hk
    obtain ⟨n, hn, rfl⟩ := Option.map_eq_some_iff.1 h
    unfold capD at hn
    split at hn
    · rename_i xs
      injection hn with hn; subst hn
      obtain ⟨a, c, sz, us, rfl, _, _, _, hf, _⟩ := R1.sl.1 hx
      have := hf rfl
      subst this
      exact ⟨.int .i64 xs.length, by simp [Builtin.cap_, run_underlying (tk_sl hk), goInt], R1.int.2 rfl, rfl⟩
    · rename_i id off len cap
      injection hn with hn; subst hn
      obtain ⟨_, a, c, rfl, _, _, hf, _⟩ := R1.ms.1 hx
      have := hf rfl
      subst this
      exact ⟨.int .i64 c, by simp [Builtin.cap_, run_underlying (tk_sl hk), goInt], R1.int.2 rfl, rfl⟩
    · cases hn
  · cases h
end
end Go.Proofs.Ytgibpomhiilehaa.Dv
