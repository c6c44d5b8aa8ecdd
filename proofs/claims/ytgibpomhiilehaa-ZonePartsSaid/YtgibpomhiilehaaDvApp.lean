/- Each operation of the evaluator is the machine's: append, copy, clear. -/
import Derived.Test.YtgibpomhiilehaaDvNew
import Derived.Lib.AppendZerosOnto
set_option linter.unusedVariables false
set_option linter.unusedSimpArgs false
namespace Go.Proofs.Ytgibpomhiilehaa.Dv
open Go

section
variable {P : Program} {Γ Γ' : Ctx} {w w' : World} {σ σ' : Store}

theorem put_obj {σ : Store} {id : Nat} {o : Ob} (h : σ.obj id = some o) : σ.put id (some o) = σ := by
  have hl := obj_lt h
  unfold Store.put
  apply List.ext_getElem?
  intro k
  rw [List.getElem?_set]
  split
  · rename_i hk
    subst hk
    unfold Store.obj at h
    cases hq : σ[id]? with
    | none => rw [hq] at h; cases h
    | some x => rw [hq] at h; exact congrArg some h.symm
  · rfl
theorem put_put (σ : Store) (id : Nat) (a b : Option Ob) : (σ.put id a).put id b = σ.put id b := by simp [Store.put]
/-- An own object under another number. -/
theorem SR.rename (hs : SR Γ σ w) {id aid esz : Nat} {xs : List D} (ho : σ.obj id = some (.row .own esz xs)) (hA : ¬ Γ.A aid) (hl : aid < σ.length) :
    ∃ Γ', SR Γ' ((σ.put id none).put aid (some (.row .own esz xs))) w ∧ Tr Γ σ w Γ' ((σ.put id none).put aid (some (.row .own esz xs))) w ∧ Γ'.A aid ∧ Γ'.ρ aid = Γ.ρ id ∧ Γ'.ez aid = Γ.ez id ∧ Γ'.bs aid = Γ.bs id ∧ ∀ k, Γ'.A k → Γ.A k ∨ k = aid := by
  let Γ' : Ctx := { C := Γ.C, A := fun k => Γ.A k ∨ k = aid, ρ := fun k => if k = aid then Γ.ρ id else Γ.ρ k, ez := fun k => if k = aid then Γ.ez id else Γ.ez k, bs := fun k => if k = aid then Γ.bs id else Γ.bs k }
  have hne : ∀ k, Γ.A k → k ≠ aid := fun k h e => hA (e ▸ h)
  have hag : Agree Γ Γ' := ⟨fun _ h => h, fun _ h => .inl h, fun k h => if_neg (hne k h), fun k h => if_neg (hne k h), fun k h => if_neg (hne k h)⟩
  have hidA := hs.live _ _ ho
  have hsame : SameC Γ w w := fun _ _ => rfl
  have hl' : aid < (σ.put id none).length := by rw [length_put]; exact hl
  have hρ : Γ'.ρ aid = Γ.ρ id := if_pos rfl
  obtain ⟨⟨he, hz, c, e, us, rest, hh, hb, hc, hr⟩, hnC, _⟩ := hs.row _ _ _ _ ho
  have hx : ∀ {k o}, k ≠ aid → ((σ.put id none).put aid (some (.row .own esz xs))).obj k = some o → σ.obj k = some o ∧ k ≠ id := fun {k o} hk h => by
    rw [obj_put_ne hk, obj_put] at h
    split at h
    · cases h
    · rename_i hn; exact ⟨h, fun e => hn ⟨e, obj_lt ho⟩⟩
  refine ⟨Γ', ⟨fun k st ez ys hk => ?_, fun k st kvs hk => ?_, fun k k' o o' hk hk' hkk => ?_, fun k o hk => ?_, hs.old, fun k hk => ?_⟩,
    ⟨hag, fun b hb => .inl hb, fun b hb => ?_, fun _ _ _ => rfl, rfl, rfl, rfl, Nat.le_refl _⟩, .inr rfl, hρ, if_pos rfl, if_pos rfl, fun k h => h⟩
  · by_cases hki : k = aid
    · subst hki
      rw [obj_put_same hl'] at hk
      injection hk with hk
      injection hk with h1 h2 h3
      subst h1 h2 h3
      refine ⟨⟨by rw [he]; exact (if_pos rfl).symm, hz, c, e, us, rest, by rw [hρ]; exact hh, by rw [hb]; exact (if_pos rfl).symm, hc, hr.mono hag hsame⟩, ?_, fun h => by cases h⟩
      rw [hρ]; exact hnC
    · obtain ⟨hk, _⟩ := hx hki hk
      obtain ⟨⟨h1, h2, d, t, vs, rs, h3, h4, h5, h6⟩, h7, h8⟩ := hs.row _ _ _ _ hk
      have hA' := hs.live _ _ hk
      refine ⟨⟨by rw [hag.ez _ hA']; exact h1, h2, d, t, vs, rs, by rw [hag.ρ _ hA']; exact h3, by rw [hag.bs _ hA']; exact h4, h5, h6.mono hag hsame⟩, ?_, ?_⟩
      · rw [hag.ρ _ hA']; exact h7
      · rw [hag.ρ _ hA']; exact h8
  · by_cases hki : k = aid
    · subst hki; rw [obj_put_same hl'] at hk; cases hk
    · exact hs.nomap _ _ _ (hx hki hk).1
  · by_cases hki : k = aid <;> by_cases hki' : k' = aid
    · rw [hki, hki']
    · subst hki
      obtain ⟨hk', hn⟩ := hx hki' hk'
      rw [hρ, hag.ρ _ (hs.live _ _ hk')] at hkk
      exact absurd (hs.inj _ _ _ _ ho hk' hkk).symm hn
    · subst hki'
      obtain ⟨hk, hn⟩ := hx hki hk
      rw [hρ, hag.ρ _ (hs.live _ _ hk)] at hkk
      exact absurd (hs.inj _ _ _ _ hk ho hkk) hn
    · obtain ⟨hk, _⟩ := hx hki hk
      obtain ⟨hk', _⟩ := hx hki' hk'
      rw [hag.ρ _ (hs.live _ _ hk), hag.ρ _ (hs.live _ _ hk')] at hkk
      exact hs.inj _ _ _ _ hk hk' hkk
  · by_cases hki : k = aid
    · exact .inr hki
    · exact .inl (hs.live _ _ (hx hki hk).1)
  · rw [length_put, length_put]
    rcases hk with hk | hk
    · exact hs.below k hk
    · subst hk; exact hl
  · obtain ⟨k, ez, ys, hk, rfl⟩ := hb
    by_cases hki : k = aid
    · subst hki; rw [hρ]; exact .inl ⟨id, esz, xs, ho, rfl⟩
    · obtain ⟨hk, _⟩ := hx hki hk
      rw [hag.ρ _ (hs.live _ _ hk)]
      exact .inl ⟨k, ez, ys, hk, rfl⟩
theorem R.resize {sz sz' : Nat} {xs : List D} {us : List Value} (h : R Γ w (some sz) xs us) (hx : xs.all (fun y => y.elem && y.cells.length == sz') = true) : R Γ w (some sz') xs us := by
  cases xs with
  | nil => rw [h.nil_inv]; exact .nil _
  | cons x xs =>
    have h1 := (h.elemE.1 x (by simp)).2
    simp only [List.all_cons, Bool.and_eq_true, beq_iff_eq] at hx
    have : sz = sz' := by omega
    exact this ▸ h
/-- What is appended or copied. -/
theorem elems_src (hs : SR Γ σ w) {t2 e2 : TypeId} (hk : P.underlying t2 = some (.slice e2)) {x : D} {ux : Value} {news : List D} {ft : Foot} (hx : R1 Γ w x ux) (h : elems σ x = some (news, ft)) {sz : Nat}
    (ha : news.all (fun y => y.elem && y.cells.length == sz) = true) : ∃ vs, R Γ w (some sz) news vs ∧ Src P sz t2 ux news.length vs w := by
  unfold elems at h
  split at h
  · rename_i full xs
    injection h with h
    injection h with h _
    subst h
    obtain ⟨a, c, sz', us, rfl, hp, hn, hc, hf, hr, hz, had⟩ := R1.sl.1 hx
    have hr' := hr.resize ha
    refine ⟨us, hr', ?_⟩
    cases xs with
    | nil =>
      rw [hr'.nil_inv]
      cases a with
      | none => exact Src.ofNil w hk c
      | some a => exact Src.ofSlice w hk a 0 c [] (by simp) (by simp) (by simp)
    | cons y ys =>
      obtain ⟨b, o, rfl, _, hcell⟩ := had (by simp)
      exact Src.ofSlice w hk _ _ c us hr'.lengthE (fun j u hu => by rw [Addr.add_lit]; exact hcell j u hu) hr'.elemE.2
  · rename_i b
    injection h with h
    injection h with h _
    subst h
    refine ⟨[], .nil _, ?_⟩
    cases b with
    | true =>
      obtain ⟨c, rfl, _⟩ := (R1.atom_iff (d := .nsl true) rfl).1 hx
      exact Src.ofNil w hk c
    | false =>
      obtain ⟨a, c, rfl, _⟩ := (R1.atom_iff (d := .nsl false) rfl).1 hx
      exact Src.ofSlice w hk a 0 c [] (by simp) (by simp) (by simp)
  · rename_i id off len cap ex
    split at h
    · rename_i st esz xs ho
      split at h
      · rename_i hle
        injection h with h
        injection h with h _
        subst h
        obtain ⟨hA, a, c, rfl, h1, h2, h3, h4, h5, h6⟩ := R1.ms.1 hx
        obtain ⟨⟨he, hz, cc, e, us, rest, hh, hb, hc, ⟨hr, hone⟩⟩, _⟩ := hs.row _ _ _ _ ho
        have hr2 := ((hr.takeE off (by omega)).2.takeE len (by rw [List.length_drop]; omega)).1
        have hlen : ((xs.drop off).take len).length = len := by rw [List.length_take, List.length_drop]; omega
        have hr' := hr2.resize ha
        refine ⟨_, hr', ?_⟩
        rw [hlen]
        rcases h4 with h4 | h4
        · have hl0 : len = 0 := by omega
          subst hl0
          have hnil : (us.drop (off * esz)).take (0 * esz) = [] := by simp
          rw [hnil]
          cases a with
          | none => exact Src.ofNil w hk c
          | some a => exact Src.ofSlice w hk a 0 c [] (by simp) (by simp) (by simp)
        · subst h4
          refine Src.ofSlice w hk _ _ c _ (by rw [hr'.lengthE, hlen]) (fun j u hu => ?_) hr'.elemE.2
          rw [List.getElem?_take] at hu
          split at hu
          · rw [List.getElem?_drop] at hu
            simp only [adr, Nat.add_zero, Addr.add_lit, ← he]
            rw [cell_of_row w _ _ cc e (0, 0) hh]
            have hk' : (us ++ rest)[off * esz + j]? = some u := by rw [List.getElem?_append_left (List.getElem?_eq_some_iff.1 hu).1]; exact hu
            rw [← hc] at hk'
            simpa using hk'
          · cases hu
      · cases h
    · cases h
  · cases h
theorem zeroCells_one {z : Array Value} (h : ∀ u ∈ z.toList, u.oneCell' = true) (n : Nat) : ∀ u ∈ (Builtin.zeroCells z n).toList, u.oneCell' = true := by
  intro u hu
  unfold Builtin.zeroCells at hu
  rw [Array.toList_map, List.mem_map] at hu
  obtain ⟨i, hi, rfl⟩ := hu
  have hi' : i < n * z.size := by simpa using hi
  have hz : 0 < z.size := by
    rcases Nat.eq_zero_or_pos z.size with h0 | h0
    · rw [h0] at hi'; omega
    · exact h0
  have hm : i % z.size < z.size := Nat.mod_lt _ hz
  rw [getElem!_pos z (i % z.size) hm]
  exact h _ (by simp)
theorem run_append_none {t t2 ty e : TypeId} {i : TypeInfo} (ht : P.underlying t = some (.slice e)) (hi : P.info? e = some i) {base : Option Addr} {n c : Nat} {ux : Value} (hs : Src P i.size t2 ux 0 [] w) (h : n ≤ c) :
    (Builtin.append_ #[t, t2] ty #[.slice base n c, ux]).run P w = .ok (.slice base n c) w := by
  rcases hs.kind with ⟨e', hk⟩ | hk <;> cases base <;> simp [Builtin.append_, run_underlying ht, run_underlying hk, sizeOf, typeInfo, hi, hs.len, h, hs.cells, storeCells]
theorem run_append_into {t t2 ty e : TypeId} {i : TypeInfo} (ht : P.underlying t = some (.slice e)) (hi : P.info? e = some i) {b off n c m : Nat} {ux : Value} {news : List Value} (hs : Src P i.size t2 ux m news w) (h : n + m ≤ c)
    {cc : Array Value} {te : TypeId} (hh : w.heap[b]? = some (.cells cc te (0, 0))) (hfit : off + n * i.size + news.length ≤ cc.size) :
    (Builtin.append_ #[t, t2] ty #[.slice (some ⟨b, off, none⟩) n c, ux]).run P w = .ok (.slice (some ⟨b, off, none⟩) (n + m) c) (w.setRow b (cc.toList.take (off + n * i.size) ++ news ++ cc.toList.drop (off + n * i.size + news.length)).toArray) := by
  have hst := run_store_row (P := P) (o := off + n * i.size) (vs := news) hh hfit hs.one
  rcases hs.kind with ⟨e', hk⟩ | hk <;> simp [Builtin.append_, run_underlying ht, run_underlying hk, sizeOf, typeInfo, hi, hs.len, h, hs.cells, Addr.add_lit, hst]
/-- A row cut in two, something written between. -/
theorem R.splice {sz : Nat} {xs news : List D} {us vs : List Value} (h : R Γ w (some sz) xs us) (k : R Γ w (some sz) news vs) (p : Nat) (hp : p + news.length ≤ xs.length) :
    R Γ w (some sz) (xs.take p ++ news ++ xs.drop (p + news.length)) (us.take (p * sz) ++ vs ++ us.drop (p * sz + vs.length)) := by
  have h1 := (h.takeE p (by omega)).1
  have h2 := (h.takeE (p + news.length) hp).2
  rw [Nat.add_mul, ← k.lengthE] at h2
  exact (h1.appendE k).appendE h2
theorem grow_ok (hs : SR Γ σ w) {aid : Nat} (hA : ¬ Γ.A aid) (hl : aid < σ.length) {t t2 ty e : TypeId} (hk : (ti P t).k = .sl e) (hz : 0 < (ti P e).sz) (he : (ti P e).zero.elem = true) (hl2 : (ti P e).zero.cells.length = (ti P e).sz)
    {base : Option Addr} {c : Nat} {ux : Value} {olds news : List D} {vo vn : List Value} (ho : R Γ w (some (ti P e).sz) olds vo) (hn : R Γ w (some (ti P e).sz) news vn) (hsrc : Src P (ti P e).sz t2 ux news.length vn w)
    (hold : (Builtin.firstCells (ti P e).sz olds.length (.slice base olds.length c)).run P w.drew = .ok vo.toArray w.drew) (hg : c < olds.length + news.length) (hb : (olds.length + news.length) * max (ti P e).bytes 1 ≤ 140737488355328) :
    ValOk Γ σ w ((Builtin.append_ #[t, t2] ty #[.slice base olds.length c, ux]).run P w) (.ms aid 0 (olds.length + news.length) (olds.length + news.length) false) (σ.put aid (some (.row .own (ti P e).sz (olds ++ news)))) (some aid) := by
  have hu := tk_sl hk
  obtain ⟨i, hinf⟩ := info_of_sz hz
  obtain ⟨z, hzz, hzd⟩ := zero_of hinf he
  have hsz := ti_sz hinf
  have hr1 : R1 Γ w (ti P e).zero z := hzd ▸ ofValue_R1 z
  have hzc := hr1.cells_size he
  have hzs : z.cells.size = i.size := by omega
  rw [ti_bytes hinf] at hb
  have hneed : olds.length + news.length ≤ 140737488355328 := Nat.le_trans (Nat.le_mul_of_pos_right _ (by omega)) hb
  have hbb : (olds.length + news.length) * i.bytes ≤ 140737488355328 := Nat.le_trans (Nat.mul_le_mul_left _ (by omega)) hb
  rw [hsz] at hsrc hold
  rw [run_append_grow_src w t t2 ty e i z hu hinf hzz base olds.length c vo hold ux news.length vn hsrc hg (by omega) (growslice_fits hg hbb)]
  have hge := grownCap_ge w (olds.length + news.length) c e
  have hcm := grownCap_le_maxLen w (olds.length + news.length) c e (by simp only [maxLen]; omega)
  have hlo := ho.lengthE
  have hln := hn.lengthE
  refine hs.newMs hA hl (w' := w.drew.alloc _) (c := (vo ++ vn).toArray ++ Builtin.zeroCells z.cells (grownCap w (olds.length + news.length) c e - (olds.length + news.length))) rfl rfl rfl rfl (us := vo ++ vn)
    (rest := (Builtin.zeroCells z.cells (grownCap w (olds.length + news.length) c e - (olds.length + news.length))).toList) (by simp) ⟨ho.appendE hn, zeroCells_one (all_oneCell (hr1.cells he) (elem_cells he)) _⟩ hz _ _ _ false hge hge (fun h => by cases h) ?_ hcm
  simp only [Array.size_append, List.size_toArray, List.length_append, size_zeroCells, hzs, hlo, hln, ← Nat.add_mul, ← hsz]
  exact Nat.mul_le_mul_right _ (by omega)
theorem append_ok (hs : SR Γ σ w) {aid : Nat} (hA : ¬ Γ.A aid) (hl : aid < σ.length) {t t2 ty e2 : TypeId} (hk2 : (ti P t2).k = .sl e2) {s x : D} {us ux : Value} {r : D × Store × Foot} (h1 : R1 Γ w s us) (h2 : R1 Γ w x ux) (h : evAppend P t s x aid σ = some r) :
    ValOk Γ σ w ((Builtin.append_ #[t, t2] ty #[us, ux]).run P w) r.1 r.2.1 (some aid) := by
  unfold evAppend at h
  split at h
  case h_2 => cases h
  rename_i e hk
  simp only at h
  split at h
  case isFalse => cases h
  rename_i hE
  obtain ⟨hz, he, hl2⟩ := hE
  split at h
  case h_2 => cases h
  rename_i news ft hel
  split at h
  case isFalse => cases h
  rename_i hall
  obtain ⟨vn, hvn, hsrc⟩ := elems_src hs (tk_sl hk2) h2 hel hall
  have hu := tk_sl hk
  obtain ⟨i, hinf⟩ := info_of_sz hz
  have hsz := ti_sz hinf
  split at h
  · -- a constant slice
    rename_i full xs
    obtain ⟨a, c, sz', vo, rfl, hp, hn, hc, hf, hr, hz', had⟩ := R1.sl.1 h1
    split at h
    · rename_i hnil
      subst hnil
      injection h with h
      subst h
      rw [hvn.nil_inv] at hsrc
      rw [hsz] at hsrc
      exact .same hs (run_append_none hu hinf hsrc hn) (R1.sl.2 ⟨a, c, sz', vo, rfl, hp, hn, hc, hf, hr, hz', had⟩)
    · rename_i hnil
      split at h
      · rename_i hcond
        obtain ⟨hfull, hall2, hb⟩ := hcond
        injection h with h
        subst h
        have hcx := hf hfull
        subst hcx
        have hvo := hr.resize hall2
        have hnl : 0 < news.length := by cases news with
          | nil => exact absurd rfl hnil
          | cons _ _ => simp
        refine grow_ok hs hA hl hk hz he hl2 hvo hvn hsrc ?_ (by omega) hb
        cases xs with
        | nil =>
          rw [hvo.nil_inv]
          cases a with
          | none => simp [Builtin.firstCells]
          | some a => exact run_firstCells_some w.drew _ 0 a 0 0 [] (by simp) (by simp)
        | cons y ys =>
          obtain ⟨b, o, rfl, _, hcell⟩ := had (by simp)
          exact run_firstCells_some w.drew _ _ _ _ _ vo hvo.lengthE (fun j u hu => by rw [Addr.add_lit]; exact hcell j u hu)
      · cases h
  · -- an object's slice
    rename_i id off len cap ex
    split at h
    case h_2 => cases h
    rename_i esz xs ho
    split at h
    case isFalse => cases h
    rename_i hcond
    obtain ⟨hez, hoc, hlc, hb⟩ := hcond
    subst hez
    obtain ⟨hAid, a, c, rfl, hc1, hc2, hc3, hc4, hc5, hc6⟩ := R1.ms.1 h1
    obtain ⟨⟨hee, _, cc, te, uo, rest, hh, hbs, hcc, ⟨hr, hone⟩⟩, _⟩ := hs.row _ _ _ _ ho
    have hcl : cc.size = uo.length + rest.length := by have := congrArg List.length hcc; simpa using this
    have hul := hr.lengthE
    by_cases hnil : news = []
    · subst hnil
      simp only [List.length_nil, Nat.add_zero, hlc, if_true, List.append_nil, List.take_append_drop, put_obj ho] at h
      injection h with h
      subst h
      rw [hvn.nil_inv] at hsrc
      rw [hsz] at hsrc
      exact .same hs (run_append_none hu hinf hsrc hc1) (R1.ms.2 ⟨hAid, a, c, rfl, hc1, hc2, hc3, hc4, hc5, hc6⟩)
    · have hnl : 0 < news.length := by cases news with
        | nil => exact absurd rfl hnil
        | cons _ _ => simp
      have hln := hvn.lengthE
      have hsrc' := hsrc
      rw [hsz] at hsrc'
      split at h
      · rename_i hroom
        injection h with h
        subst h
        have hc0 : c ≠ 0 := by omega
        have ha := hc4.resolve_left hc0
        subst ha
        have hfit0 : (off + len + news.length) * (ti P e).sz ≤ uo.length := by rw [hul]; exact Nat.mul_le_mul_right _ (by omega)
        have e1 : (off + len + news.length) * (ti P e).sz = off * (ti P e).sz + len * (ti P e).sz + news.length * (ti P e).sz := by rw [Nat.add_mul, Nat.add_mul]
        have hfit : off * (ti P e).sz + len * (ti P e).sz + vn.length ≤ uo.length := by rw [hln]; omega
        simp only [adr, Nat.add_zero, ← hee]
        rw [run_append_into hu hinf hsrc' (by omega) hh (by rw [← hsz]; omega)]
        have hw := hs.write (xs' := xs.take (off + len) ++ news ++ xs.drop (off + len + news.length)) (c' := (cc.toList.take (off * (ti P e).sz + len * i.size) ++ vn ++ cc.toList.drop (off * (ti P e).sz + len * i.size + vn.length)).toArray) (rest := rest)
          (us := uo.take ((off + len) * (ti P e).sz) ++ vn ++ uo.drop ((off + len) * (ti P e).sz + vn.length)) ho hh
          (by rw [← hbs, ← hsz]; simp only [List.size_toArray, List.length_append, List.length_take, List.length_drop, Array.length_toList]; omega)
          (by
            show cc.toList.take _ ++ vn ++ cc.toList.drop _ = _
            rw [hcc, ← hsz, Nat.add_mul, List.take_append_of_le_length (by omega), List.drop_append_of_le_length hfit]
            simp only [List.append_assoc])
          ⟨hr.splice hvn (off + len) (by omega), hone⟩
        exact ⟨_, Γ, _, rfl, R1.ms.2 ⟨hAid, _, c, rfl, by omega, hc2, hc3, .inr (by simp [adr, ← hee]), hc5, hc6⟩, hw.1, hw.2, fun k hk => .inl hk⟩
      · rename_i hroom
        split at h
        · -- there is no room: a new row, and the old one stays
          rename_i hex
          injection h with h
          subst h
          have hcc' := hc3 hex
          subst hcc'
          have hlen : ((xs.drop off).take len).length = len := by rw [List.length_take, List.length_drop]; omega
          have hvo := ((hr.takeE off (by omega)).2.takeE len (by rw [List.length_drop]; omega)).1
          have hfirst : (Builtin.firstCells (ti P e).sz ((xs.drop off).take len).length (.slice a ((xs.drop off).take len).length c)).run P w.drew = .ok ((uo.drop (off * (ti P e).sz)).take (len * (ti P e).sz)).toArray w.drew := by
            rw [hlen]
            rcases hc4 with hc4 | hc4
            · have : len = 0 := by omega
              subst this
              cases a with
              | none => simp [Builtin.firstCells]
              | some a => simpa using run_firstCells_some w.drew (ti P e).sz 0 a 0 c [] (by simp) (by simp)
            · subst hc4
              refine run_firstCells_some w.drew _ _ _ _ _ _ (by rw [hvo.lengthE, hlen]) (fun j u hu => ?_)
              rw [List.getElem?_take] at hu
              split at hu
              · rw [List.getElem?_drop] at hu
                simp only [adr, Nat.add_zero, Addr.add_lit, ← hee]
                show w.cell? _ = _
                rw [cell_of_row w _ _ cc te (0, 0) hh]
                have hk' : (uo ++ rest)[off * (ti P e).sz + j]? = some u := by rw [List.getElem?_append_left (List.getElem?_eq_some_iff.1 hu).1]; exact hu
                rw [← hcc] at hk'
                simpa using hk'
              · cases hu
          have hg := grow_ok hs hA hl hk hz he hl2 hvo hvn hsrc hfirst (t := t) (t2 := t2) (ty := ty) (by rw [hlen]; omega) (by rw [hlen]; exact hb)
          rw [hlen] at hg
          exact hg
        split at h
        case isFalse => cases h
        rename_i hoff
        subst hoff
        injection h with h
        subst h
        have hlen : (xs.take len).length = len := by rw [List.length_take]; omega
        have hvo := (hr.takeE len (by omega)).1
        by_cases hin : len + news.length ≤ c
        · -- in place
          have hc0 : c ≠ 0 := by omega
          have ha := hc4.resolve_left hc0
          subst ha
          have hblk : (len + news.length) * (ti P e).sz ≤ cc.size := by
            rw [hbs]
            refine Nat.le_trans ?_ hc5
            rw [← hee, Nat.zero_add]
            exact Nat.mul_le_mul_right _ hin
          have e1 : (len + news.length) * (ti P e).sz = len * (ti P e).sz + news.length * (ti P e).sz := Nat.add_mul _ _ _
          have hpu : len * (ti P e).sz ≤ uo.length := by rw [hul]; exact Nat.mul_le_mul_right _ (by omega)
          simp only [adr, Nat.zero_mul, Nat.add_zero]
          rw [run_append_into hu hinf hsrc' (by omega) hh (by rw [← hsz, hln]; omega)]
          rw [← hsz, Nat.zero_add]
          have hw := hs.write (xs' := xs.take len ++ news) (c' := (cc.toList.take (len * (ti P e).sz) ++ vn ++ cc.toList.drop (len * (ti P e).sz + vn.length)).toArray) (rest := cc.toList.drop (len * (ti P e).sz + vn.length))
            (us := uo.take (len * (ti P e).sz) ++ vn) ho hh
            (by rw [← hbs]; simp only [List.size_toArray, List.length_append, List.length_take, List.length_drop, Array.length_toList]; omega)
            (by
              show cc.toList.take _ ++ vn ++ cc.toList.drop _ = _
              rw [hcc, List.take_append_of_le_length hpu])
            ⟨hvo.appendE hvn, fun u hu => by
              have hu := List.mem_of_mem_drop hu
              rw [hcc] at hu
              rcases List.mem_append.1 hu with hu | hu
              · exact hr.elemE.2 u hu
              · exact hone u hu⟩
          obtain ⟨Γ', k1, k2, k3, k4, k5, k6, k7⟩ := hw.1.rename (obj_put_same (obj_lt ho) _) (aid := aid) hA (by rw [length_put]; exact hl)
          rw [put_put] at k1 k2
          refine ⟨_, Γ', _, rfl, R1.ms.2 ⟨k3, _, c, rfl, by omega, by omega, (fun h => by cases h), .inr (by simp [adr, k4]), by rw [k5, k6]; exact hc5, hc6⟩, k1, hw.2.trans k2, fun k hk => ?_⟩
          rcases k7 k hk with h | h
          · exact .inl h
          · exact .inr (by rw [h])
        · -- a new row
          obtain ⟨r1, r2⟩ := hs.retire id
          have hAl : aid < (σ.put id none).length := by rw [length_put]; exact hl
          have hfirst : (Builtin.firstCells (ti P e).sz (xs.take len).length (.slice a (xs.take len).length c)).run P w.drew = .ok (uo.take (len * (ti P e).sz)).toArray w.drew := by
            rcases hc4 with hc4 | hc4
            · have : len = 0 := by omega
              subst this
              cases a with
              | none => simp [Builtin.firstCells]
              | some a => simpa using run_firstCells_some w.drew (ti P e).sz 0 a 0 c [] (by simp) (by simp)
            · subst hc4
              refine run_firstCells_some w.drew _ _ _ _ _ _ hvo.lengthE (fun j u hu => ?_)
              rw [List.getElem?_take] at hu
              split at hu
              · simp only [adr, Nat.zero_mul, Nat.add_zero, Addr.add_lit, Nat.zero_add]
                show w.cell? _ = _
                rw [cell_of_row w _ _ cc te (0, 0) hh]
                have hk' : (uo ++ rest)[j]? = some u := by rw [List.getElem?_append_left (List.getElem?_eq_some_iff.1 hu).1]; exact hu
                rw [← hcc] at hk'
                simpa using hk'
              · cases hu
          have hg := grow_ok r1 hA hAl hk hz he hl2 hvo hvn hsrc hfirst (t := t) (t2 := t2) (ty := ty) (by rw [hlen]; omega) (by rw [hlen]; exact hb)
          rw [hlen] at hg
          obtain ⟨w1, Γ1, u1, g1, g2, g3, g4, g5⟩ := hg
          exact ⟨w1, Γ1, u1, g1, g2, g3, r2.trans g4, g5⟩
  · cases h
theorem growZ_ok (hs : SR Γ σ w) {aid : Nat} (hA : ¬ Γ.A aid) (hl : aid < σ.length) {t t2 ty e : TypeId} {kq kn : IntKind} (hk : (ti P t).k = .sl e) (hk2 : (ti P t2).k = .int kn) (hz : 0 < (ti P e).sz) (he : (ti P e).zero.elem = true) (hl2 : (ti P e).zero.cells.length = (ti P e).sz)
    {base : Option Addr} {c n : Nat} {olds : List D} {vo : List Value} (ho : R Γ w (some (ti P e).sz) olds vo)
    (hold : (Builtin.firstCells (ti P e).sz olds.length (.slice base olds.length c)).run P w.drew = .ok vo.toArray w.drew) (hg : c < olds.length + n) (h0 : 0 < n) (hb : (olds.length + n) * max (ti P e).bytes 1 ≤ 140737488355328) :
    ValOk Γ σ w ((Builtin.append_ #[t, t2] ty #[.slice base olds.length c, .int kq n]).run P w) (.ms aid 0 (olds.length + n) (olds.length + n) false) (σ.put aid (some (.row .own (ti P e).sz (olds ++ List.replicate n (ti P e).zero)))) (some aid) := by
  have hu := tk_sl hk
  obtain ⟨i, hinf⟩ := info_of_sz hz
  obtain ⟨z, hzz, hzd⟩ := zero_of hinf he
  have hsz := ti_sz hinf
  have hr1 : R1 Γ w (ti P e).zero z := hzd ▸ ofValue_R1 z
  have hzc := hr1.cells_size he
  have hzs : z.cells.size = i.size := by omega
  rw [ti_bytes hinf] at hb
  have hneed : olds.length + n ≤ 140737488355328 := Nat.le_trans (Nat.le_mul_of_pos_right _ (by omega)) hb
  have hbb : (olds.length + n) * i.bytes ≤ 140737488355328 := Nat.le_trans (Nat.mul_le_mul_left _ (by omega)) hb
  rw [hsz] at hold
  have hnb : n * i.bytes ≤ 281474976710656 := Nat.le_trans (Nat.mul_le_mul_right _ (Nat.le_add_left n olds.length)) (by omega)
  rw [Lib.run_append_grow_zeros w t t2 ty e i z kq kn hu (tk_int hk2) hinf hzz base olds.length c vo hold n h0 (by omega) hg (by omega) hnb (growslice_fits hg hbb)]
  have hge := grownCap_ge w (olds.length + n) c e
  have hcm := grownCap_le_maxLen w (olds.length + n) c e (by simp only [maxLen]; omega)
  have hlo := ho.lengthE
  have hrep : R Γ w (some (ti P e).sz) (List.replicate n (ti P e).zero) (Builtin.zeroCells z.cells n).toList := by
    have := toList_madeCells z.cells (by omega) n
    show R Γ w _ _ (madeCells z.cells (n * z.cells.size)).toList
    rw [this]
    exact R.replicateE he (hr1.cells he) (by simp; omega) n
  refine hs.newMs hA hl (w' := w.drew.alloc _) (c := vo.toArray ++ Builtin.zeroCells z.cells n ++ Builtin.zeroCells z.cells (grownCap w (olds.length + n) c e - (olds.length + n))) rfl rfl rfl rfl (us := vo ++ (Builtin.zeroCells z.cells n).toList)
    (rest := (Builtin.zeroCells z.cells (grownCap w (olds.length + n) c e - (olds.length + n))).toList) (by simp) ⟨ho.appendE hrep, zeroCells_one (all_oneCell (hr1.cells he) (elem_cells he)) _⟩ hz _ _ _ false hge hge (fun h => by cases h) ?_ hcm
  simp only [Array.size_append, List.size_toArray, size_zeroCells, hzs, hlo, ← Nat.add_mul, ← hsz]
  exact Nat.mul_le_mul_right _ (by omega)
theorem appendZ_ok (hs : SR Γ σ w) {aid : Nat} (hA : ¬ Γ.A aid) (hl : aid < σ.length) {t t2 ty : TypeId} {kn kq : IntKind} (hk2 : (ti P t2).k = .int kn) {s : D} {n : Int} {us ux : Value} {r : D × Store × Foot} (h1 : R1 Γ w s us) (h2 : R1 Γ w (.int kq n) ux) (h : evAppendZ P t s n aid σ = some r) :
    ValOk Γ σ w ((Builtin.append_ #[t, t2] ty #[us, ux]).run P w) r.1 r.2.1 (some aid) := by
  obtain rfl := R1.int.1 h2
  unfold evAppendZ at h
  split at h
  · rename_i e id off len cap hk
    simp only at h
    split at h
    case h_2 => cases h
    rename_i st esz xs ho
    split at h
    case isFalse => cases h
    rename_i hcond
    obtain ⟨⟨hz, he, hl2, hee⟩, hoc, hlt, hb⟩ := hcond
    subst hee
    injection h with h
    subst h
    obtain ⟨hAid, a, c, rfl, hc1, hc2, hc3, hc4, hc5, hc6⟩ := R1.ms.1 h1
    have hcc' := hc3 rfl
    subst hcc'
    obtain ⟨⟨hee, _, cc, te, uo, rest, hh, hbs, hcc, ⟨hr, hone⟩⟩, _⟩ := hs.row _ _ _ _ ho
    have hlen : ((xs.drop off).take len).length = len := by rw [List.length_take, List.length_drop]; omega
    have hvo := ((hr.takeE off (by omega)).2.takeE len (by rw [List.length_drop]; omega)).1
    have hfirst : (Builtin.firstCells (ti P e).sz ((xs.drop off).take len).length (.slice a ((xs.drop off).take len).length c)).run P w.drew = .ok ((uo.drop (off * (ti P e).sz)).take (len * (ti P e).sz)).toArray w.drew := by
      rw [hlen]
      rcases hc4 with hc4 | hc4
      · have : len = 0 := by omega
        subst this
        cases a with
        | none => simp [Builtin.firstCells]
        | some a => simpa using run_firstCells_some w.drew (ti P e).sz 0 a 0 c [] (by simp) (by simp)
      · subst hc4
        refine run_firstCells_some w.drew _ _ _ _ _ _ (by rw [hvo.lengthE, hlen]) (fun j u hu => ?_)
        rw [List.getElem?_take] at hu
        split at hu
        · rw [List.getElem?_drop] at hu
          simp only [adr, Nat.add_zero, Addr.add_lit, ← hee]
          show w.cell? _ = _
          rw [cell_of_row w _ _ cc te (0, 0) hh]
          have hk' : (uo ++ rest)[off * (ti P e).sz + j]? = some u := by rw [List.getElem?_append_left (List.getElem?_eq_some_iff.1 hu).1]; exact hu
          rw [← hcc] at hk'
          simpa using hk'
        · cases hu
    have hn : n = (n.toNat : Int) := by omega
    have hg := growZ_ok hs hA hl hk hk2 hz he hl2 (kq := kq) hvo hfirst (n := n.toNat) (ty := ty) (by rw [hlen]; omega) (by omega) (by rw [hlen]; exact hb)
    rw [hlen, ← hn] at hg
    exact hg
  · rename_i e xs hk
    simp only at h
    split at h
    case isFalse => cases h
    rename_i hcond
    obtain ⟨⟨hz, he, hl2⟩, hall2, h0, hb⟩ := hcond
    injection h with h
    subst h
    obtain ⟨a, c, sz', vo, rfl, hp, hn, hc, hf, hr, hz', had⟩ := R1.sl.1 h1
    have hcx := hf rfl
    subst hcx
    have hvo := hr.resize hall2
    have hn' : n = (n.toNat : Int) := by omega
    have hg := growZ_ok hs hA hl hk hk2 hz he hl2 (kq := kq) (base := a) (c := xs.length) hvo ?_ (n := n.toNat) (ty := ty) (by omega) (by omega) hb
    · rw [← hn'] at hg
      exact hg
    · cases xs with
      | nil =>
        rw [hvo.nil_inv]
        cases a with
        | none => simp [Builtin.firstCells]
        | some a => exact run_firstCells_some w.drew _ 0 a 0 0 [] (by simp) (by simp)
      | cons y ys =>
        obtain ⟨b, o, rfl, _, hcell⟩ := had (by simp)
        exact run_firstCells_some w.drew _ _ _ _ _ vo hvo.lengthE (fun j u hu => by rw [Addr.add_lit]; exact hcell j u hu)
  · cases h
end
end Go.Proofs.Ytgibpomhiilehaa.Dv
