/- Each operation of the evaluator is the machine's: those that compute, copy and clear. -/
import Derived.Test.YtgibpomhiilehaaDvApp
set_option linter.unusedVariables false
set_option linter.unusedSimpArgs false
namespace Go.Proofs.Ytgibpomhiilehaa.Dv
open Go

section
variable {P : Program} {Γ Γ' : Ctx} {w w' : World} {σ σ' : Store}

/-! ### copy, clear -/
theorem elems_cells (hs : SR Γ σ w) {x : D} {ux : Value} {news : List D} {ft : Foot} (hx : R1 Γ w x ux) (h : elems σ x = some (news, ft)) :
    ∃ vs a c sz, ux = .slice a news.length c ∧ R Γ w (some sz) news vs ∧ (news ≠ [] → ∃ b o, a = some ⟨b, o, none⟩ ∧ ∀ k u, vs[k]? = some u → w.cell? ⟨b, o + k, none⟩ = some u) := by
  unfold elems at h
  split at h
  · rename_i full xs
    injection h with h
    injection h with h _
    subst h
    obtain ⟨a, c, sz', us, rfl, hp, hn, hc, hf, hr, hz, had⟩ := R1.sl.1 hx
    refine ⟨us, a, c, sz', rfl, hr, fun hne => ?_⟩
    obtain ⟨b, o, e, _, hcell⟩ := had hne
    exact ⟨b, o, e, hcell⟩
  · rename_i b
    injection h with h
    injection h with h _
    subst h
    cases b with
    | true =>
      obtain ⟨c, rfl, _⟩ := (R1.atom_iff (d := .nsl true) rfl).1 hx
      exact ⟨[], none, c, 1, rfl, .nil _, fun h => absurd rfl h⟩
    | false =>
      obtain ⟨a, c, rfl, _⟩ := (R1.atom_iff (d := .nsl false) rfl).1 hx
      exact ⟨[], some a, c, 1, rfl, .nil _, fun h => absurd rfl h⟩
  · rename_i id off len cap ex
    split at h
    · rename_i st esz xs ho
      split at h
      · rename_i hle
        injection h with h
        injection h with h _
        subst h
        obtain ⟨hA, a, c, rfl, h1, h2, h3, h4, h5, h6⟩ := R1.ms.1 hx
        obtain ⟨⟨he, hz, cc, e, us, rest, hh, hb, hc, ⟨hr, hone⟩⟩, _⟩ := hs.row _ _ _ _ ho
        have hr2 := ((hr.takeE off (by omega)).2.takeE len (by rw [List.length_drop]; omega)).1
        have hlen : ((xs.drop off).take len).length = len := by rw [List.length_take, List.length_drop]; omega
        refine ⟨_, a, c, esz, by rw [hlen], hr2, fun hne => ?_⟩
        have hl0 : 0 < len := by
          cases hq : (xs.drop off).take len with
          | nil => exact absurd hq hne
          | cons _ _ => rw [hq] at hlen; simp at hlen; omega
        have ha := h4.resolve_left (by omega)
        refine ⟨Γ.ρ id, off * Γ.ez id, by rw [ha]; simp [adr], fun j u hu => ?_⟩
        rw [List.getElem?_take] at hu
        split at hu
        · rw [List.getElem?_drop] at hu
          rw [← he, cell_of_row w _ _ cc e (0, 0) hh]
          have hk' : (us ++ rest)[off * esz + j]? = some u := by rw [List.getElem?_append_left (List.getElem?_eq_some_iff.1 hu).1]; exact hu
          rw [← hc] at hk'
          simpa using hk'
        · cases hu
      · cases h
    · cases h
  · cases h
/-- A stretch of an own object written. -/
theorem write_stretch (hs : SR Γ σ w) {id esz : Nat} {xs news : List D} {vn : List Value} {p : Nat} (ho : σ.obj id = some (.row .own esz xs)) (hp : p + news.length ≤ xs.length) (hn : R Γ w (some esz) news vn) :
    ∃ w', (storeCells ⟨Γ.ρ id, p * esz, none⟩ vn).run P w = .ok () w' ∧ SR Γ (σ.put id (some (.row .own esz (xs.take p ++ news ++ xs.drop (p + news.length))))) w' ∧ Tr Γ σ w Γ (σ.put id (some (.row .own esz (xs.take p ++ news ++ xs.drop (p + news.length))))) w' := by
  obtain ⟨⟨hee, hz, cc, te, uo, rest, hh, hbs, hcc, ⟨hr, hone⟩⟩, _⟩ := hs.row _ _ _ _ ho
  have hcl : cc.size = uo.length + rest.length := by have := congrArg List.length hcc; simpa using this
  have hul := hr.lengthE
  have hln := hn.lengthE
  have hle : (p + news.length) * esz ≤ uo.length := by rw [hul]; exact Nat.mul_le_mul_right _ hp
  have e1 : (p + news.length) * esz = p * esz + news.length * esz := Nat.add_mul _ _ _
  have hrow := run_store_row (P := P) (o := p * esz) (vs := vn) hh (by omega) hn.elemE.2
  have hw := hs.write (xs' := xs.take p ++ news ++ xs.drop (p + news.length)) (c' := (cc.toList.take (p * esz) ++ vn ++ cc.toList.drop (p * esz + vn.length)).toArray) (rest := rest)
    (us := uo.take (p * esz) ++ vn ++ uo.drop (p * esz + vn.length)) ho hh
    (by rw [← hbs]; simp only [List.size_toArray, List.length_append, List.length_take, List.length_drop, Array.length_toList]; omega)
    (by
      show cc.toList.take _ ++ vn ++ cc.toList.drop _ = _
      rw [hcc, List.take_append_of_le_length (by omega), List.drop_append_of_le_length (by omega)]
      simp only [List.append_assoc])
    ⟨hr.splice hn p hp, hone⟩
  exact ⟨_, hrow, hw.1, hw.2⟩
theorem copy_ok (hs : SR Γ σ w) {t t2 ty : TypeId} {s x : D} {us ux : Value} {r : D × Store × Foot} {aid : Option Nat} (h1 : R1 Γ w s us) (h2 : R1 Γ w x ux) (h : evCopy P t s x σ = some r) :
    ValOk Γ σ w ((Builtin.copy_ #[t, t2] ty #[us, ux]).run P w) r.1 r.2.1 aid := by
  unfold evCopy at h
  split at h
  case h_2 => cases h
  rename_i e id off len cap ex news ft hk hel
  split at h
  case h_2 => cases h
  rename_i esz xs ho
  simp only at h
  split at h
  case isFalse => cases h
  rename_i hcond
  obtain ⟨hez, hle, hall⟩ := hcond
  injection h with h
  subst h
  obtain ⟨hAid, a, c, rfl, hc1, hc2, hc3, hc4, hc5, hc6⟩ := R1.ms.1 h1
  obtain ⟨vs, a2, c2, sz, rfl, hvs, had⟩ := elems_cells hs h2 hel
  obtain ⟨⟨hee, hz, _⟩, _⟩ := hs.row _ _ _ _ ho
  have hu := tk_sl hk
  obtain ⟨i, hinf⟩ := info_of_sz (P := P) (t := e) (by rw [← hez]; exact hz)
  have hsz := ti_sz hinf
  have hm1 : min news.length len ≤ news.length := Nat.min_le_left _ _
  have hm2 : min news.length len ≤ len := Nat.min_le_right _ _
  have htl : (news.take (min news.length len)).length = min news.length len := by rw [List.length_take]; omega
  have hvt := ((hvs.takeE (min news.length len) hm1).1).resize hall
  have hsz' : i.size = esz := by omega
  have hfirst : (Builtin.firstCells i.size (min news.length len) (.slice a2 news.length c2)).run P w = .ok (vs.take (min news.length len * sz)).toArray w := by
    have hlt : (vs.take (min news.length len * sz)).length = min news.length len * i.size := by rw [hvt.lengthE, htl, hsz']
    by_cases hne : news = []
    · subst hne
      simp only [List.length_nil, Nat.zero_min, Nat.zero_mul, List.take_zero]
      cases a2 with
      | none => simp [Builtin.firstCells]
      | some a2 => simpa using run_firstCells_some w i.size 0 a2 0 c2 [] (by simp) (by simp)
    · obtain ⟨b, o, rfl, hcell⟩ := had hne
      refine run_firstCells_some w _ _ _ _ _ _ hlt (fun j u hu => ?_)
      rw [Addr.add_lit]
      rw [List.getElem?_take] at hu
      split at hu
      · exact hcell j u hu
      · cases hu
  obtain ⟨w1, hst, hw1, hw2⟩ := write_stretch (P := P) hs ho (p := off) (by rw [htl]; omega) hvt
  rw [htl] at hw1 hw2
  by_cases hc0 : c = 0
  · have hl0 : len = 0 := by omega
    subst hl0
    have hput : σ.put id (some (.row .own esz (xs.take off ++ news.take (min news.length 0) ++ xs.drop (off + min news.length 0)))) = σ := by
      simp only [Nat.min_zero, List.take_zero, List.append_nil, Nat.add_zero, List.take_append_drop]
      exact put_obj ho
    rw [hput]
    simp only [Nat.min_zero, Nat.zero_mul, List.take_zero] at hfirst
    refine .same hs ?_ (R1.int.2 rfl)
    cases a <;> simp [Builtin.copy_, run_underlying hu, run_sizeOf hinf, Builtin.lenOf, hfirst, storeCells, goInt]
  · have ha := hc4.resolve_left hc0
    subst ha
    refine ⟨w1, Γ, _, ?_, R1.int.2 rfl, hw1, hw2, fun k hk => .inl hk⟩
    have hmin : Nat.min news.length len = min news.length len := rfl
    simp only [adr, Nat.add_zero, ← hee]
    simp [Builtin.copy_, run_underlying hu, run_sizeOf hinf, Builtin.lenOf, hmin, hfirst, hst, goInt]
theorem clear_ok (hs : SR Γ σ w) {t ty : TypeId} {s : D} {us : Value} {r : D × Store × Foot} {aid : Option Nat} (h1 : R1 Γ w s us) (h : evClear P t s σ = some r) :
    ValOk Γ σ w ((Builtin.clear_ #[t] ty #[us]).run P w) r.1 r.2.1 aid := by
  unfold evClear at h
  split at h
  case h_2 => cases h
  rename_i e id off len cap ex hk
  simp only at h
  split at h
  case h_2 => cases h
  rename_i esz xs ho
  split at h
  case isFalse => cases h
  rename_i hcond
  obtain ⟨hez, hle, he, hl2⟩ := hcond
  injection h with h
  subst h
  obtain ⟨hAid, a, c, rfl, hc1, hc2, hc3, hc4, hc5, hc6⟩ := R1.ms.1 h1
  obtain ⟨⟨hee, hz, _⟩, _⟩ := hs.row _ _ _ _ ho
  have hu := tk_sl hk
  obtain ⟨i, hinf⟩ := info_of_sz (P := P) (t := e) (by rw [← hez]; exact hz)
  obtain ⟨z, hzz, hzd⟩ := zero_of hinf he
  have hsz := ti_sz hinf
  have hr1 : R1 Γ w (ti P e).zero z := hzd ▸ ofValue_R1 z
  have hzc := hr1.cells_size he
  by_cases hl0 : len = 0
  · subst hl0
    have hput : σ.put id (some (.row .own esz (xs.take off ++ List.replicate 0 (ti P e).zero ++ xs.drop (off + 0)))) = σ := by
      simp only [List.replicate_zero, List.append_nil, Nat.add_zero, List.take_append_drop]
      exact put_obj ho
    rw [hput]
    refine .same hs ?_ (R1.undef.2 rfl)
    cases a <;> simp [Builtin.clear_, run_underlying hu, Go.undef]
  · have ha := hc4.resolve_left (by omega)
    subst ha
    have hrep : R Γ w (some esz) (List.replicate len (ti P e).zero) (madeCells z.cells (len * z.cells.size)).toList := by
      rw [toList_madeCells _ (by omega)]
      exact R.replicateE he (hr1.cells he) (by simp; omega) len
    obtain ⟨w1, hst, hw1, hw2⟩ := write_stretch (P := P) hs ho (p := off) (by rw [List.length_replicate]; omega) hrep
    rw [List.length_replicate] at hw1 hw2
    refine ⟨w1, Γ, _, ?_, R1.undef.2 rfl, hw1, hw2, fun k hk => .inl hk⟩
    have hzero : Builtin.zeroCells z.cells len = madeCells z.cells (len * z.cells.size) := rfl
    simp only [adr, Nat.add_zero, ← hee]
    obtain ⟨m, rfl⟩ : ∃ m, len = m + 1 := ⟨len - 1, by omega⟩
    simp [Builtin.clear_, run_underlying hu, zeroValue, typeInfo, hinf, hzz, hzero, hst, Go.undef]

/-! ### values -/
theorem part_run {t : TypeId} {ds : List D} {us : List Value} {off : Nat} {v : D} (hsub : sub (ti P t) (.agg ds) off = some v) (h : R Γ w none ds us) (hl : ds.all D.leaf = true) :
    ∃ u, (part t us.toArray off).run P w = .ok u w ∧ R1 Γ w v u := by
  have hlen := h.length
  unfold sub at hsub
  split at hsub
  · cases hsub
  rename_i hk
  have hk : (ti P t).k.known = true := by cases hq : (ti P t).k.known <;> simp_all
  obtain ⟨d, hd⟩ := tk_some hk
  obtain ⟨i, hi⟩ := info_of hd
  have hsz := ti_sz hi
  have hag := run_isAgg hk w
  split at hsub
  · rename_i h0
    obtain ⟨rfl, ha, hl2⟩ := h0
    injection hsub with hsub
    subst hsub
    have hA : (ti P t).k.isAgg = true := ha.symm
    simp only [D.cells] at hl2
    refine ⟨.agg us.toArray, ?_, R1.agg.2 ⟨us, rfl, h, hl⟩⟩
    have hx : us.take i.size = us := List.take_of_length_le (by omega)
    simp [part, hag, hA, run_sizeOf hi, hx]
  · split at hsub
    · rename_i hA
      split at hsub
      · rename_i hle
        injection hsub with hsub
        subst hsub
        simp only [D.cells] at hle ⊢
        refine ⟨.agg ((us.drop off).take (ti P t).sz).toArray, ?_, R1.agg.2 ⟨_, rfl, (h.drop off).take _, ?_⟩⟩
        · simp [part, hag, hA, run_sizeOf hi, hsz]
        · simp only [List.all_eq_true] at hl ⊢
          exact fun d hd => hl d (List.mem_of_mem_drop (List.mem_of_mem_take hd))
      · cases hsub
    · rename_i hA
      have hA : (ti P t).k.isAgg = false := by simpa using hA
      split at hsub
      · obtain ⟨u, hu, h1⟩ := h.get (by simpa [D.cells] using hsub)
        exact ⟨u, by simp [part, hag, hA, hu], h1⟩
      · cases hsub
theorem evPart_run {t : TypeId} {x v : D} {u : Value} {off : Nat} (hx : R1 Γ w x u) (h : evPart P t x off = some v) : ∃ cs z, u = .agg cs ∧ (part t cs off).run P w = .ok z w ∧ R1 Γ w v z := by
  unfold evPart at h
  split at h
  · obtain ⟨us, rfl, hr, hl⟩ := R1.agg.1 hx
    obtain ⟨z, hz, h1⟩ := part_run h hr hl
    exact ⟨_, z, rfl, hz, h1⟩
  · cases h
theorem fields_get {fields : Array Field} {f : Nat} {off : Nat} {ft : TypeId} (h : (fields.toList.map fun f => (f.offset, f.type))[f]? = some (off, ft)) : ∃ fl, fields[f]? = some fl ∧ fl.offset = off ∧ fl.type = ft := by
  rw [List.getElem?_map] at h
  obtain ⟨fl, h1, h2⟩ := Option.map_eq_some_iff.1 h
  injection h2 with h2 h3
  exact ⟨fl, by simpa using h1, h2, h3⟩
theorem field_ok {t : TypeId} {x v : D} {u : Value} {f : Nat} (hx : R1 Γ w x u) (h : evField P t x f = some v) : ∃ z, (Instr.field t u f).run P w = .ok z w ∧ R1 Γ w v z := by
  unfold evField at h
  split at h
  · rename_i fs hk
    obtain ⟨fields, hu, rfl⟩ := tk_st hk
    split at h
    · rename_i off ft hf
      obtain ⟨fl, hfl, rfl, rfl⟩ := fields_get hf
      obtain ⟨cs, z, rfl, hz, h1⟩ := evPart_run hx h
      exact ⟨z, by simp [Instr.field, run_underlying hu, hfl, asAgg, hz], h1⟩
    · cases h
  · cases h
theorem fieldAddr_ok {s : TypeId} {x v : D} {u : Value} {f : Nat} (hx : R1 Γ w x u) (h : evFieldAddr P s x f = some v) : ∃ z, (Instr.fieldAt s u f).run P w = .ok z w ∧ R1 Γ w v z := by
  unfold evFieldAddr at h
  split at h
  · rename_i fs hk
    obtain ⟨fields, hu, rfl⟩ := tk_st hk
    split at h
    · rename_i off ft hf
      obtain ⟨fl, hfl, rfl, rfl⟩ := fields_get hf
      split at h
      · cases h
      · rename_i hz
        obtain ⟨i, hi⟩ := info_of_sz (P := P) (t := fl.type) (by omega)
        rw [ti_sz hi] at hz
        split at h
        · injection h with h
          subst h
          obtain ⟨hA, rfl⟩ := R1.ptr.1 hx
          exact ⟨_, by simp [Instr.fieldAt, run_underlying hu, hfl, Instr.sureAddr, fieldPlace, run_sizeOf hi, hz, adr, Addr.add_lit]; rfl, R1.ptr.2 ⟨hA, by simp [adr, Nat.add_assoc]⟩⟩
        · injection h with h
          subst h
          obtain ⟨us, b, o, rfl, hp, he, hr, hC, hc⟩ := R1.cpt.1 hx
          exact ⟨_, by simp [Instr.fieldAt, run_underlying hu, hfl, Instr.sureAddr, fieldPlace, run_sizeOf hi, hz, Addr.add_lit]; rfl, R1.cpt.2 ⟨us, b, o, by simp [Nat.add_assoc], hp, he, hr, hC, hc⟩⟩
        · cases h
    · cases h
  · cases h
theorem sl_elem {full : Bool} {xs : List D} {u : Value} (hx : R1 Γ w (.sl full xs) u) {n : Nat} {y : D} (hy : xs[n]? = some y) :
    ∃ b o c sz us, u = .slice (some ⟨b, o, none⟩) xs.length c ∧ y.pure = true ∧ y.elem = true ∧ y.cells.length = sz ∧ R Γ w none y.cells us ∧ Γ.C b ∧ ∀ k u, us[k]? = some u → w.cell? ⟨b, o + n * sz + k, none⟩ = some u := by
  obtain ⟨a, c, sz, us, rfl, hp, hn, hc, hf, hr, hz, had⟩ := R1.sl.1 hx
  have hlt : n < xs.length := (List.getElem?_eq_some_iff.1 hy).1
  obtain ⟨b, o, rfl, hC, hcell⟩ := had (fun e => by rw [e] at hlt; cases hlt)
  obtain ⟨h1, h2, h3⟩ := hr.getE hy
  simp only [List.all_eq_true] at hp
  refine ⟨b, o, c, sz, _, rfl, hp y (List.mem_of_getElem? hy), h1, h2, h3, hC, fun k u hu => ?_⟩
  rw [List.getElem?_take] at hu
  split at hu
  · rw [List.getElem?_drop] at hu
    rw [Nat.add_assoc]
    exact hcell _ u hu
  · cases hu
theorem esz_row (hs : SR Γ σ w) {id n : Nat} (h : σ.esz id = some n) : Γ.ez id = n ∧ ∃ st xs, σ.obj id = some (.row st n xs) := by
  unfold Store.esz at h
  split at h
  · rename_i st esz xs ho
    injection h with h
    subst h
    exact ⟨((hs.row _ _ _ _ ho).1.1).symm, st, xs, ho⟩
  · cases h
theorem indexAddr_ok (hs : SR Γ σ w) {t : TypeId} {x ix : D} {u ui : Value} {r : D × Foot} (hx : R1 Γ w x u) (hi : R1 Γ w ix ui) (h : evIndexAddr P t x ix σ = some r) : ∃ z, (Instr.indexAt t u ui).run P w = .ok z w ∧ R1 Γ w r.1 z := by
  unfold evIndexAddr at h
  split at h
  · rename_i e full xs k n hk
    split at h
    · rename_i h0
      split at h
      · rename_i y hy
        split at h
        · rename_i hc
          injection h with h
          subst h
          obtain ⟨b, o, c, sz, us, rfl, hp, he, hl, hr, hC, hcell⟩ := sl_elem hx hy
          rw [R1.int.1 hi]
          have hu := tk_sl hk
          obtain ⟨i, hinf⟩ := info_of_sz hc.2
          have hsz := ti_sz hinf
          have hlt : n.toNat < xs.length := (List.getElem?_eq_some_iff.1 hy).1
          have hn : n < (xs.length : Int) := by omega
          have hszz : i.size = sz := by omega
          refine ⟨.pointer (some ⟨b, o + n.toNat * sz, none⟩), ?_, R1.cpt.2 ⟨us, b, o + n.toNat * sz, by simp, hp, he, hr, hC, hcell⟩⟩
          simp [Instr.indexAt, asIntOf, run_underlying hu, h0, hn, run_sizeOf hinf, Addr.add_lit, hszz]
        · cases h
      · cases h
    · cases h
  · rename_i e id off len cap ex k n hk
    split at h
    · rename_i hc
      obtain ⟨h0, hn, hz, hez⟩ := hc
      injection h with h
      subst h
      obtain ⟨hA, a, c, rfl, h1, h2, h3, h4, h5, h6⟩ := R1.ms.1 hx
      rw [R1.int.1 hi]
      have hu := tk_sl hk
      obtain ⟨i, hinf⟩ := info_of_sz hz
      have hsz := ti_sz hinf
      have ha := h4.resolve_left (by omega)
      subst ha
      obtain ⟨hzz, _⟩ := esz_row hs hez
      refine ⟨.pointer (some (adr Γ id (off + n.toNat) 0)), ?_, R1.ptr.2 ⟨hA, rfl⟩⟩
      simp [Instr.indexAt, asIntOf, run_underlying hu, h0, hn, run_sizeOf hinf, Addr.add_lit, adr, hzz, ← hsz, Nat.add_mul]
    · cases h
  · rename_i m e id i j k n hk
    split at h
    · rename_i hc
      obtain ⟨h0, hn, hz⟩ := hc
      injection h with h
      subst h
      obtain ⟨hA, rfl⟩ := R1.ptr.1 hx
      rw [R1.int.1 hi]
      have hu := tk_arr hk
      obtain ⟨inf, hinf⟩ := info_of_sz hz
      have hsz := ti_sz hinf
      refine ⟨.pointer (some (adr Γ id i (j + n.toNat * (ti P e).sz))), ?_, R1.ptr.2 ⟨hA, rfl⟩⟩
      simp [Instr.indexAt, asIntOf, run_underlying hu, h0, hn, run_sizeOf hinf, Addr.add_lit, adr, ← hsz, Instr.sureAddr, Nat.add_assoc]
    · cases h
  · rename_i m e y j k n hk
    split at h
    · rename_i hc
      obtain ⟨h0, hn, hz⟩ := hc
      injection h with h
      subst h
      obtain ⟨us, b, o, rfl, hp, he, hr, hC, hcell⟩ := R1.cpt.1 hx
      rw [R1.int.1 hi]
      have hu := tk_arr hk
      obtain ⟨inf, hinf⟩ := info_of_sz hz
      have hsz := ti_sz hinf
      refine ⟨.pointer (some ⟨b, o + (j + n.toNat * (ti P e).sz), none⟩), ?_, R1.cpt.2 ⟨us, b, o, rfl, hp, he, hr, hC, hcell⟩⟩
      simp [Instr.indexAt, asIntOf, run_underlying hu, h0, hn, run_sizeOf hinf, Addr.add_lit, ← hsz, Instr.sureAddr, Nat.add_assoc]
    · cases h
  · cases h
theorem sub_known {T : TI} {x v : D} {j : Nat} (h : sub T x j = some v) : T.k.known = true := by
  unfold sub at h
  cases hq : T.k.known with
  | true => rfl
  | false => rw [hq] at h; simp at h
theorem index_ok {t : TypeId} {x ix v : D} {u ui : Value} (hx : R1 Γ w x u) (hi : R1 Γ w ix ui) (h : evIndex P t x ix = some v) : ∃ z, (Instr.index t u ui).run P w = .ok z w ∧ R1 Γ w v z := by
  unfold evIndex at h
  split at h
  · rename_i m e ds k n hk
    split at h
    · rename_i hc
      obtain ⟨h0, hn⟩ := hc
      obtain ⟨cs, z, rfl, hz, h1⟩ := evPart_run hx h
      rw [R1.int.1 hi]
      have hu := tk_arr hk
      refine ⟨z, ?_, h1⟩
      have hkn : (ti P e).k.known = true := sub_known h
      obtain ⟨d, hd⟩ := tk_some hkn
      obtain ⟨inf, hinf⟩ := info_of hd
      have hsz := ti_sz hinf
      rw [hsz] at hz
      simp [Instr.index, asIntOf, run_underlying hu, h0, hn, run_sizeOf hinf, hz]
    · cases h
  · rename_i s k n hk
    split at h
    · rename_i h0
      split at h
      · rename_i b hb
        injection h with h
        subst h
        rw [R1.int.1 hi, R1.str.1 hx]
        have hu := tk_str hk
        exact ⟨.int .u8 b.toNat, by simp [Instr.index, asIntOf, run_underlying hu, h0, hb], R1.int.2 rfl⟩
      · cases h
    · cases h
  · cases h
/-- What bounds a slice expression bears. -/
def OptR (Γ : Ctx) (w : World) : Option D → Option Value → Prop
  | none, none => True
  | some d, some v => R1 Γ w d v
  | _, _ => False
theorem bound_run {dflt : Nat} {o : Option D} {v : Option Value} {n y : Nat} {code : BoundsCode} (hr : OptR Γ w o v) (h : bnd dflt o = some n) (hy : n ≤ y) (hd : dflt ≤ y ∨ v.isSome = true) :
    (match v with | some x => Instr.sliceBound x y code | none => (pure dflt : Sem Nat)).run P w = .ok n w := by
  cases o with
  | none => cases v with
    | none => simp only [bnd, Option.some.injEq] at h; subst h; rfl
    | some v => exact hr.elim
  | some d => cases v with
    | none => exact hr.elim
    | some v =>
      cases d <;> simp only [bnd] at h <;> try cases h
      rename_i k m
      split at h
      · rename_i h0
        injection h with h
        subst h
        rw [R1.int.1 (show R1 Γ w _ v from hr)]
        have : m ≤ (y : Int) := by omega
        simp [Instr.sliceBound, asIntOf, h0, this]
      · cases h
end
end Go.Proofs.Ytgibpomhiilehaa.Dv
