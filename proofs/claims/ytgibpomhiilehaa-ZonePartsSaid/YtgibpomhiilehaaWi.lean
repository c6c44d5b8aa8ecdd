/- What a call is shown to do where the room of a slice is known, holds where it isn't; the model's slices.overlaps. -/
import Derived.Test.YtgibpomhiilehaaWr
import Derived.Lib.Overlaps
set_option linter.unusedVariables false
set_option linter.unusedSimpArgs false
namespace Go.Proofs.Ytgibpomhiilehaa.Dv
open Go Go.Proofs
variable {P : Program} {Γ Γ' Γ1 : Ctx} {w w' : World} {σ σ' σ1 : Store}

/-- An element of which nothing is known. -/
def junkE (esz : Nat) : D := match esz with | 1 => .junk | n => .agg (List.replicate n .junk)
theorem junk_R : ∀ {us : List Value}, (∀ u ∈ us, u.oneCell' = true) → R Γ w none (List.replicate us.length .junk) us
  | [], _ => .nil _
  | u :: us, h => R.cons ((R1.atom_iff (d := .junk) rfl).2 (h u (List.mem_cons_self ..))) (junk_R fun v hv => h v (List.mem_cons_of_mem _ hv))
theorem junkE_elem (esz : Nat) : (junkE esz).elem = true := by
  unfold junkE
  split
  · rfl
  · simp only [D.elem, List.all_eq_true]
    intro x hx
    rw [List.eq_of_mem_replicate hx]; rfl
theorem junkE_cells {esz : Nat} (hz : 0 < esz) : (junkE esz).cells = List.replicate esz .junk := by
  unfold junkE
  split <;> rfl
theorem junk_rows {esz : Nat} (hz : 0 < esz) : ∀ (k : Nat) {us : List Value}, us.length = k * esz → (∀ u ∈ us, u.oneCell' = true) → R Γ w (some esz) (List.replicate k (junkE esz)) us
  | 0, us, hl, _ => by
    have : us = [] := by cases us <;> simp_all
    rw [this]; exact .nil _
  | k + 1, us, hl, h1 => by
    have e : us = us.take esz ++ us.drop esz := (List.take_append_drop _ _).symm
    rw [Nat.add_mul, Nat.one_mul] at hl
    have hlt : (us.take esz).length = esz := by rw [List.length_take]; omega
    rw [e, List.replicate_succ]
    refine .elem (junkE_elem _) ?_ hlt (junk_rows hz k (by rw [List.length_drop]; omega) fun u hu => h1 u (List.mem_of_mem_drop hu))
    rw [junkE_cells hz]
    have := junk_R (Γ := Γ) (w := w) (us := us.take esz) fun u hu => h1 u (List.mem_of_mem_take hu)
    rw [hlt] at this
    exact this

/-! ### a row seen anew -/
theorem own_put {id esz : Nat} {xs ys : List D} (ho : σ.obj id = some (.row .own esz xs)) {b : Nat} : Own Γ (σ.put id (some (.row .own esz ys))) b ↔ Own Γ σ b := by
  constructor
  · rintro ⟨k, e, zs, hk, hb⟩
    rw [obj_put] at hk
    split at hk
    · rename_i h; exact ⟨id, esz, xs, ho, by rw [← hb, h.1]⟩
    · exact ⟨k, e, zs, hk, hb⟩
  · rintro ⟨k, e, zs, hk, hb⟩
    by_cases h : k = id
    · subst h; exact ⟨k, esz, ys, obj_put_same (obj_lt ho) _, hb⟩
    · exact ⟨k, e, zs, by rw [obj_put_ne h]; exact hk, hb⟩
theorem SR.seen (hs : SR Γ σ w) {id esz : Nat} {xs ys : List D} (ho : σ.obj id = some (.row .own esz xs))
    (h : ∀ us rest, RE Γ w esz xs us rest → us.length + rest.length = Γ.bs id → ∃ us' rest', us' ++ rest' = us ++ rest ∧ RE Γ w esz ys us' rest') :
    SR Γ (σ.put id (some (.row .own esz ys))) w := by
  have hx : ∀ {k : Nat} {o : Ob}, (σ.put id (some (.row .own esz ys))).obj k = some o → (k = id ∧ o = .row .own esz ys) ∨ (k ≠ id ∧ σ.obj k = some o) := by
    intro k o hk
    by_cases he : k = id
    · subst he
      rw [obj_put_same (obj_lt ho)] at hk
      injection hk with hk
      exact .inl ⟨rfl, hk.symm⟩
    · rw [obj_put_ne he] at hk; exact .inr ⟨he, hk⟩
  have hy : ∀ {k : Nat} {o : Ob}, (σ.put id (some (.row .own esz ys))).obj k = some o → ∃ o', σ.obj k = some o' := by
    intro k o hk
    rcases hx hk with ⟨rfl, _⟩ | ⟨_, h⟩
    · exact ⟨_, ho⟩
    · exact ⟨_, h⟩
  refine ⟨fun k st e zs hk => ?_, fun k st kvs hk => ?_, fun k k' o o' hk hk' hρ => ?_, fun k o hk => ?_, hs.old, fun k hk => by rw [length_put]; exact hs.below k hk⟩
  · rcases hx hk with ⟨rfl, he⟩ | ⟨_, hk⟩
    · injection he with h1 h2 h3
      subst h1 h2 h3
      obtain ⟨⟨h1, h2, c, ee, us, rest, h3, h4, h5, h6⟩, h7, h8⟩ := hs.row _ _ _ _ ho
      obtain ⟨us', rest', k1, k2⟩ := h us rest h6 (by rw [← h4]; have := congrArg List.length h5; simpa using this.symm)
      exact ⟨⟨h1, h2, c, ee, us', rest', h3, h4, by rw [k1]; exact h5, k2⟩, h7, h8⟩
    · exact hs.row _ _ _ _ hk
  · rcases hx hk with ⟨rfl, he⟩ | ⟨_, hk⟩
    · cases he
    · exact hs.nomap _ _ _ hk
  · obtain ⟨o1, h1⟩ := hy hk
    obtain ⟨o2, h2⟩ := hy hk'
    exact hs.inj _ _ _ _ h1 h2 hρ
  · obtain ⟨o1, h1⟩ := hy hk
    exact hs.live _ _ h1
theorem reach_own {Γ2 : Ctx} {σ2 : Store} (hl : σ.length = σ1.length) (ho : ∀ b, Own Γ σ1 b ↔ Own Γ σ b) (h : Reach Γ σ1 w Γ2 σ2 w') : Reach Γ σ w Γ2 σ2 w' := by
  obtain ⟨⟨h1, h2, h3, h4, h5, h6, h7, h8⟩, h9, h10⟩ := h
  exact ⟨⟨h1, fun b hb => (h2 b hb).imp_right (Or.imp_right (ho b).1), fun b hb => (h3 b hb).imp_left (ho b).1, fun b hb hn => h4 b hb fun hh => hn ((ho b).1 hh), h5, h6, h7, h8⟩, by omega, fun id hid => (h10 id hid).imp_right fun h => by omega⟩
theorem oneCells_of {esz : Nat} {xs : List D} {us rest : List Value} (h : RE Γ w esz xs us rest) : ∀ u ∈ us ++ rest, u.oneCell' = true := by
  intro u hu
  rcases List.mem_append.1 hu with hu | hu
  · exact h.r.elemE.2 u hu
  · exact h.one u hu
/-- Where the room is not known, each room that it may be is enough. -/
theorem RefFun.known {f : FuncId} {rs : List D} {id esz off len cap : Nat} {ex : Bool} {xs : List D} {r : D} (ho : σ.obj id = some (.row .own esz xs)) (hle : off + len ≤ xs.length)
    (h : ∀ c, len ≤ c → cap ≤ c → c ≤ maxLen → (ex = true → c = cap) → RefFun P f (.ms id off len c true :: rs) (σ.put id (some (.row .own esz (xs.take (off + len) ++ List.replicate (c - len) (junkE esz))))) r σ') :
    RefFun P f (.ms id off len cap ex :: rs) σ r σ' := by
  intro Γ w vargs hs hargs
  obtain ⟨v, vs, hvs, hv, hrest⟩ := hargs.cons_inv
  obtain ⟨hA, a, c, rfl, h1, h2, h3, h4, h5, h6⟩ := R1.ms.1 hv
  have hez : esz = Γ.ez id := (hs.row _ _ _ _ ho).1.1
  have hz : 0 < esz := (hs.row _ _ _ _ ho).1.2.1
  have hs1 : SR Γ (σ.put id (some (.row .own esz (xs.take (off + len) ++ List.replicate (c - len) (junkE esz))))) w := by
    refine hs.seen ho fun us rest hre hlen => ?_
    have hone := oneCells_of hre
    have hul := hre.r.lengthE
    refine ⟨(us ++ rest).take ((off + c) * esz), (us ++ rest).drop ((off + c) * esz), List.take_append_drop _ _, ?_, fun u hu => hone u (List.mem_of_mem_drop hu)⟩
    have hfit : (off + c) * esz ≤ (us ++ rest).length := by rw [List.length_append, hlen, hez]; exact h5
    have hsplit : (off + c) * esz = (off + len) * esz + (c - len) * esz := by rw [← Nat.add_mul]; congr 1; omega
    have hp : (off + len) * esz ≤ us.length := by rw [hul]; exact Nat.mul_le_mul_right _ hle
    have e : (us ++ rest).take ((off + c) * esz) = us.take ((off + len) * esz) ++ ((us ++ rest).drop ((off + len) * esz)).take ((c - len) * esz) := by
      rw [hsplit, List.take_add, List.take_append_of_le_length hp]
    rw [e]
    refine (hre.r.takeE (off + len) hle).1.appendE (junk_rows hz _ ?_ fun u hu => hone u (List.mem_of_mem_drop (List.mem_of_mem_take hu)))
    rw [List.length_take, List.length_drop]
    omega
  refine (h c h1 h2 h6 h3 Γ w vargs hs1 ?_).mono fun x w' hp => ?_
  · rw [hvs]
    exact R.cons (R1.ms.2 ⟨hA, a, c, rfl, h1, Nat.le_refl _, fun _ => rfl, h4, h5, h6⟩) hrest
  · obtain ⟨v, Γ', e, k1, k2, k3⟩ := hp
    exact ⟨v, Γ', e, k1, k2, reach_own (length_put ..).symm (fun b => own_put ho) k3⟩

/-- An empty slice is nil or not. -/
theorem RefFun.nils {f : FuncId} {rs : List D} {full : Bool} {r : D} (h1 : RefFun P f (.nsl true :: rs) σ r σ') (h2 : RefFun P f (.nsl false :: rs) σ r σ') : RefFun P f (.sl full [] :: rs) σ r σ' := by
  intro Γ w vargs hs hargs
  obtain ⟨v, vs, hvs, hv, hrest⟩ := hargs.cons_inv
  obtain ⟨a, c, sz, us, rfl, _, _, hc, _⟩ := R1.sl.1 hv
  cases a with
  | none => exact h1 Γ w vargs hs (by rw [hvs]; exact R.cons ((R1.atom_iff (d := .nsl true) rfl).2 ⟨c, rfl, hc⟩) hrest)
  | some a => exact h2 Γ w vargs hs (by rw [hvs]; exact R.cons ((R1.atom_iff (d := .nsl false) rfl).2 ⟨a, c, rfl, hc⟩) hrest)
/-! ### less is said of what comes out -/
theorem RefFun.weak {f : FuncId} {ds : List D} {r r' : D} (h : RefFun P f ds σ r σ1)
    (hw : ∀ (Γ1 : Ctx) (w' : World) (v : Value), R1 Γ1 w' r v → SR Γ1 σ1 w' → ∃ Γ', R1 Γ' w' r' v ∧ SR Γ' σ' w' ∧ Reach Γ1 σ1 w' Γ' σ' w') : RefFun P f ds σ r' σ' := by
  intro Γ w vargs hs hargs
  refine (h Γ w vargs hs hargs).mono fun x w' hp => ?_
  obtain ⟨v, Γ1, e, k1, k2, k3⟩ := hp
  obtain ⟨Γ2, l1, l2, l3⟩ := hw Γ1 w' v k1 k2
  exact ⟨v, Γ2, e, l1, l2, k3.trans l3⟩
/-- What was written in place, as a row of its own. -/
theorem inPlace {esz : Nat} {L J : List D} {n c : Nat} {o2 : Option Ob} {v : Value} (hn : n ≤ L.length) (h1 : R1 Γ w (.ms 0 0 n c true) v) (hc : n ≤ c) (hs : SR Γ [some (.row .own esz (L ++ J)), o2] w) :
    ∃ Γ', R1 Γ' w (.ms 2 0 n n false) v ∧ SR Γ' [none, o2, some (.row .own esz L)] w ∧ Reach Γ [some (.row .own esz (L ++ J)), o2] w Γ' [none, o2, some (.row .own esz L)] w := by
  have ho : Store.obj [some (.row .own esz (L ++ J)), o2] 0 = some (.row .own esz (L ++ J)) := rfl
  have hs1 : SR Γ (Store.put [some (.row .own esz (L ++ J)), o2] 0 (some (.row .own esz L))) w := by
    refine hs.seen ho fun us rest hre hlen => ?_
    have hul := hre.r.lengthE
    obtain ⟨a, b, hab, ha, hb⟩ := hre.r.splitE
    refine ⟨a, b ++ rest, by rw [hab, List.append_assoc], ha, fun u hu => ?_⟩
    rcases List.mem_append.1 hu with hu | hu
    · exact hb.elemE.2 u hu
    · exact hre.one u hu
  have hs2 : SR Γ (Store.put [some (.row .own esz (L ++ J)), o2] 0 (some (.row .own esz L)) ++ List.replicate 1 none) w := hs1.pad 1
  have hA2 : ¬ Γ.A 2 := fun h => by have := hs1.below 2 h; simp [Store.put] at this
  obtain ⟨Γ', k1, k2, k3, k4, k5, k6, k7⟩ := hs2.rename (id := 0) (aid := 2) (esz := esz) (xs := L) rfl hA2 (by simp [Store.put])
  obtain ⟨hA, a, c', rfl, l1, l2, l3, l4, l5, l6⟩ := R1.ms.1 h1
  refine ⟨Γ', R1.ms.2 ⟨k3, a, c', rfl, l1, by omega, (fun h => by cases h), ?_, by rw [k5, k6]; exact l5, l6⟩, k1, ?_⟩
  · rcases l4 with l4 | l4
    · exact .inl l4
    · refine .inr (l4.trans ?_)
      simp only [adr, k4, Nat.zero_mul]
  · have hr1 : Reach Γ (Store.put [some (.row .own esz (L ++ J)), o2] 0 (some (.row .own esz L))) w Γ' [none, o2, some (.row .own esz L)] w := by
      obtain ⟨g1, g2, g3, g4, g5, g6, g7, g8⟩ := k2
      refine ⟨⟨g1, fun b hb => (g2 b hb).imp_right (Or.imp_right own_pad.1), fun b hb => (g3 b hb).imp_left own_pad.1, fun b hb hn => g4 b hb fun h => hn (own_pad.1 h), g5, g6, g7, g8⟩, by simp [Store.put], fun id hid => ?_⟩
      rcases k7 id hid with h | h
      · exact .inl h
      · exact .inr (by subst h; simp [Store.put])
    exact reach_own (length_put ..).symm (fun b => own_put ho) hr1

/-! ### slices.overlaps -/
theorem overlaps_run {tS tR e : TypeId} (ht : P.underlying tS = some (.slice e)) {size : Nat} (hz : ∀ w, (Go.sizeOf e).run P w = .ok size w) {i oi li ci j oj lj cj ei ej : Nat} {xi xj : Bool} {si sj : St} {xs ys : List D}
    (hi : σ.obj i = some (.row si ei xs)) (hj : σ.obj j = some (.row sj ej ys)) (hij : i ≠ j) (hs : SR Γ σ w) {u v : Value} (hu : R1 Γ w (.ms i oi li ci xi) u) (hv : R1 Γ w (.ms j oj lj cj xj) v) :
    (Extern.SlicesOverlaps.overlaps #[tS, tS] #[tR] #[u, v]).run P w = .ok (.bool false) w := by
  obtain ⟨hA1, a, c1, rfl, a1, a2, a3, a4, a5, a6⟩ := R1.ms.1 hu
  obtain ⟨hA2, b, c2, rfl, b1, b2, b3, b4, b5, b6⟩ := R1.ms.1 hv
  have nil : ∀ (a b : Option Addr), (li = 0 ∨ lj = 0 ∨ a = none ∨ b = none) → (Extern.SlicesOverlaps.overlaps #[tS, tS] #[tR] #[.slice a li c1, .slice b lj c2]).run P w = .ok (.bool false) w := by
    intro a b h
    change Sem.run P (α := Value) (do
      let some t := (#[tS, tS] : Array TypeId)[0]? | stuck "slices.overlaps: no parameter types"
      let .slice elem ← underlying t | stuck "slices.overlaps: slice type expected"
      let size ← sizeOf elem
      match a, b with
      | some a, some b =>
        if li = 0 ∨ lj = 0 ∨ size = 0 then pure (Value.bool false)
        else if a.block != b.block && (← frozen a) && (← frozen b) then unsupported .addressObserved
        else do
          if a.block != b.block then do
            noView a; noView b
            if ← mayBeOne a b then return Value.bool ((← choose (.extern "sameAddr.stringBytes" 2)) == 1)
          pure (Value.bool (a.block == b.block && a.off < b.off + lj * size && b.off < a.off + li * size))
      | _, _ => pure (Value.bool false)) w = _
    cases a with
    | none => simp [run_underlying ht, hz]
    | some a => cases b with
      | none => simp [run_underlying ht, hz]
      | some b =>
        have h0 : li = 0 ∨ lj = 0 ∨ size = 0 := by
          rcases h with h | h | h | h
          · exact .inl h
          · exact .inr (.inl h)
          · cases h
          · cases h
        simp [run_underlying ht, hz, h0]
  rcases a4 with a4 | a4
  · exact nil _ _ (.inl (by omega))
  rcases b4 with b4 | b4
  · exact nil _ _ (.inr (.inl (by omega)))
  subst a4 b4
  obtain ⟨⟨p1, p2, cs1, e1, us1, rest1, p3, p4, p5, p6⟩, _⟩ := hs.row _ _ _ _ hi
  obtain ⟨⟨q1, q2, cs2, e2, us2, rest2, q3, q4, q5, q6⟩, _⟩ := hs.row _ _ _ _ hj
  have hne : Γ.ρ i ≠ Γ.ρ j := fun h => hij (hs.inj _ _ _ _ hi hj h)
  by_cases hk : cs2.size = 0
  · refine nil _ _ (.inr (.inl ?_))
    have : (oj + c2) * Γ.ez j = 0 := by omega
    rcases Nat.mul_eq_zero.1 this with h | h <;> omega
  have hfz : ∀ b o c e, w.heap[b]? = some (.cells c e (0, 0)) → w.frozen? ⟨b, o, none⟩ = false := by
    intro b o c e h
    simp [World.frozen?, h]
  exact Lib.run_overlaps_apart w tS tR e ht size hz (adr Γ i oi 0) (adr Γ j oj 0) li c1 lj c2 hne e1 e2 cs1.size cs2.size (by simp [World.shape?, adr, p3]) (by simp [World.shape?, adr, q3]) hk (hfz _ _ _ _ p3) (hfz _ _ _ _ p3)
theorem overlaps_ref {f : FuncId} {fn : Func} {tS tR e : TypeId} (hf : P.funcs[f]? = some fn) (h1 : (fn.name == "runtime.NumGoroutine") = false) (h2 : fn.body.isNone = true) (h3 : Extern.findNext fn = none) (h4 : Extern.find fn = some (Extern.SlicesOverlaps.overlaps #[tS, tS] #[tR]))
    (ht : P.underlying tS = some (.slice e)) {size : Nat} (hz : ∀ w, (Go.sizeOf e).run P w = .ok size w) {i oi li ci j oj lj cj ei ej : Nat} {xi xj : Bool} {si sj : St} {xs ys : List D}
    (hi : σ.obj i = some (.row si ei xs)) (hj : σ.obj j = some (.row sj ej ys)) (hij : i ≠ j) : RefFun P f [.ms i oi li ci xi, .ms j oj lj cj xj] σ (.bool false) σ := by
  intro Γ w vargs hs hargs
  obtain ⟨u, vs, e1, hu, hr⟩ := hargs.cons_inv
  obtain ⟨v, vs', rfl, hv, hr'⟩ := hr.cons_inv
  rw [hr'.nil_inv] at e1
  have hva : vargs = #[u, v] := by cases vargs; simp_all
  refine .inr ⟨.bool false, w, ?_, .bool false, Γ, rfl, R1.bool.2 rfl, hs, .refl _ _ _⟩
  rw [run_callFunc_extern hf h1 h2 h3 h4, hva, overlaps_run ht hz hi hj hij hs hu hv]
  rfl
end Go.Proofs.Ytgibpomhiilehaa.Dv
