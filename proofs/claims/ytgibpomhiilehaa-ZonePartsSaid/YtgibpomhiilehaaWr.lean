/- A call that works on some of its caller's objects: what it does to them alone is what it does among others. -/
import Derived.Test.YtgibpomhiilehaaWu
set_option linter.unusedVariables false
set_option linter.unusedSimpArgs false
namespace Go.Proofs.Ytgibpomhiilehaa.Dv
open Go Go.Proofs

/-- The objects that a callee sees, by their names here. -/
def asSrc (fp : List Nat) : List (Nat × Bool) := fp.map fun i => (i, true)
theorem asSrc_fst (fp : List Nat) : (asSrc fp).map (·.1) = fp := by unfold asSrc; rw [List.map_map]; exact (List.map_congr_left fun _ _ => rfl).trans (List.map_id _)
/-- A row as the other side sees it. -/
def RowTo (src : List (Nat × Bool)) (xs ys : List D) : Prop := (ys = xs ∧ xs.all D.pure = true) ∨ (ys = xs.map (ren src) ∧ ys.all D.elem = true ∧ ys.map (fun d => d.cells.length) = xs.map (fun d => d.cells.length))
variable {P : Program} {Γ Γ' Γ1 : Ctx} {w w' : World} {σ σ' σs σs' : Store}
theorem RowTo.R {src : List (Nat × Bool)} {xs ys : List D} (h : RowTo src xs ys) {sz : Nat} {us : List Value} (hr : R Γ w (some sz) xs us) : R (NewC Γ src) w (some sz) ys us := by
  rcases h with ⟨rfl, hp⟩ | ⟨rfl, h1, h2⟩
  · exact hr.pureElems hp
  · exact hr.renElems h1 h2
theorem RowTo.RE {src : List (Nat × Bool)} {xs ys : List D} (h : RowTo src xs ys) {sz : Nat} {us rest : List Value} (hr : RE Γ w sz xs us rest) : RE (NewC Γ src) w sz ys us rest := ⟨h.R hr.r, hr.one⟩
/-- What a callee sees of a store. -/
structure SubSt (fp : List Nat) (σ σs : Store) : Prop where
  len : σs.length = fp.length
  nodup : fp.Nodup
  row : ∀ (k id : Nat), fp[k]? = some id → ∃ st e xs ys, σ.obj id = some (.row st e xs) ∧ σs.obj k = some (.row st e ys) ∧ RowTo (asSrc fp) xs ys
theorem SubSt.get {fp : List Nat} (h : SubSt fp σ σs) {k : Nat} {o : Ob} (ho : σs.obj k = some o) : ∃ id st e xs ys, fp[k]? = some id ∧ σ.obj id = some (.row st e xs) ∧ o = .row st e ys ∧ RowTo (asSrc fp) xs ys := by
  have hk : k < fp.length := by rw [← h.len]; exact obj_lt ho
  obtain ⟨st, e, xs, ys, h1, h2, h3⟩ := h.row k fp[k] (List.getElem?_eq_getElem hk)
  rw [ho] at h2
  injection h2 with h2
  exact ⟨fp[k], st, e, xs, ys, List.getElem?_eq_getElem hk, h1, h2, h3⟩
theorem NewC_at {fp : List Nat} {k id : Nat} (h : fp[k]? = some id) : (NewC Γ (asSrc fp)).ρ k = Γ.ρ id ∧ (NewC Γ (asSrc fp)).ez k = Γ.ez id ∧ (NewC Γ (asSrc fp)).bs k = Γ.bs id := by
  have hd : ((asSrc fp).map (·.1)).getD k 0 = id := by rw [asSrc_fst, List.getD_eq_getElem?_getD, h]; rfl
  exact ⟨by simp only [NewC, hd], by simp only [NewC, hd], by simp only [NewC, hd]⟩
theorem NewC_A {fp : List Nat} {k : Nat} : (NewC Γ (asSrc fp)).A k ↔ ∃ id, fp[k]? = some id ∧ Γ.A id := by
  show (∃ id, ((asSrc fp).map (·.1))[k]? = some id ∧ Γ.A id) ↔ _
  rw [asSrc_fst]
theorem SubSt.SR {fp : List Nat} (h : SubSt fp σ σs) (hs : SR Γ σ w) : SR (NewC Γ (asSrc fp)) σs w := by
  refine ⟨fun k st esz ys ho => ?_, fun k st kvs ho => ?_, fun k k' o o' h1 h2 hρ => ?_, fun k o ho => ?_, fun b hb => hs.old b hb, fun k hk => ?_⟩
  · obtain ⟨id, st', e', xs, ys', h1, h2, h3, h4⟩ := h.get ho
    injection h3 with h5 h6 h7
    subst h5 h6 h7
    obtain ⟨n1, n2, n3⟩ := NewC_at (Γ := Γ) h1
    obtain ⟨⟨k1, k2, c, ee, us, rest, k3, k4, k5, k6⟩, l1, l2⟩ := hs.row _ _ _ _ h2
    exact ⟨⟨by rw [n2]; exact k1, k2, c, ee, us, rest, by rw [n1]; exact k3, by rw [n3]; exact k4, k5, h4.RE k6⟩, fun hst => by rw [n1]; exact l1 hst, fun hst => by rw [n1]; exact l2 hst⟩
  · obtain ⟨id, st', e', xs, ys', h1, h2, h3, h4⟩ := h.get ho
    cases h3
  · obtain ⟨i1, s1, e1, x1, y1, a1, a2, _, _⟩ := h.get h1
    obtain ⟨i2, s2, e2, x2, y2, b1, b2, _, _⟩ := h.get h2
    rw [(NewC_at (Γ := Γ) a1).1, (NewC_at (Γ := Γ) b1).1] at hρ
    have := hs.inj _ _ _ _ a2 b2 hρ
    subst this
    obtain ⟨l1, g1⟩ := List.getElem?_eq_some_iff.1 a1
    obtain ⟨l2, g2⟩ := List.getElem?_eq_some_iff.1 b1
    exact (List.getElem_inj (h₀ := l1) (h₁ := l2) h.nodup).1 (g1.trans g2.symm)
  · obtain ⟨id, st', e', xs, ys', h1, h2, h3, h4⟩ := h.get ho
    exact NewC_A.2 ⟨id, h1, hs.live _ _ h2⟩
  · obtain ⟨id, h1, _⟩ := NewC_A.1 hk
    rw [h.len]
    exact (List.getElem?_eq_some_iff.1 h1).1

/-- The callee's names, where they stand in the caller's store behind the call: those that it saw, then those that are new and wanted. -/
def backL (fp nw : List Nat) (n : Nat) : List Nat := ((List.range n).map fun p => (fp.idxOf? p).getD (1000000 + p)) ++ nw
/-- The caller's store behind the call. -/
structure BackSt (fp nw : List Nat) (σ σs' σ' : Store) : Prop where
  len : σ'.length = σ.length + nw.length
  small : σs'.length ≤ 1000000
  nodup : nw.Nodup
  ge : ∀ k ∈ nw, fp.length ≤ k ∧ ∀ o, σs'.obj k = some o → ∃ e xs, o = .row .own e xs
  keep : ∀ id, id < σ.length → id ∉ fp → σ'.obj id = σ.obj id
  seen : ∀ (k id : Nat), fp[k]? = some id → σ'.obj id = none ∨ ∃ st e xs ys, σs'.obj k = some (.row st e xs) ∧ σ'.obj id = some (.row st e ys) ∧ RowTo (asSrc (backL fp nw σ.length)) xs ys
  new : ∀ (j k : Nat), nw[j]? = some k → σ'.obj (σ.length + j) = none ∨ ∃ st e xs ys, σs'.obj k = some (.row st e xs) ∧ σ'.obj (σ.length + j) = some (.row st e ys) ∧ RowTo (asSrc (backL fp nw σ.length)) xs ys
theorem backL_new {fp nw : List Nat} {n j : Nat} : (backL fp nw n)[n + j]? = nw[j]? := by
  unfold backL
  rw [List.getElem?_append_right (by simp)]
  simp
theorem backL_old {fp nw : List Nat} {n p : Nat} (hp : p < n) : (backL fp nw n)[p]? = some ((fp.idxOf? p).getD (1000000 + p)) := by
  unfold backL
  rw [List.getElem?_append_left (by simpa using hp), List.getElem?_map, List.getElem?_range hp]
  rfl
theorem idx_get {fp : List Nat} {id k : Nat} (h : fp.idxOf? id = some k) : fp[k]? = some id := by
  rw [List.idxOf?_eq_some_iff] at h
  obtain ⟨h1, h2, _⟩ := h
  rw [List.getElem?_eq_getElem h1]
  simpa using h2
def BackC (Γ Γ1 : Ctx) (nw : List Nat) (n : Nat) : Ctx :=
  { C := Γ1.C, A := fun id => if id < n then Γ.A id else ∃ k, nw[id - n]? = some k ∧ Γ1.A k
    ρ := fun id => if id < n then Γ.ρ id else Γ1.ρ (nw.getD (id - n) 0), ez := fun id => if id < n then Γ.ez id else Γ1.ez (nw.getD (id - n) 0), bs := fun id => if id < n then Γ.bs id else Γ1.bs (nw.getD (id - n) 0) }
theorem BackSt.ok {fp nw : List Nat} (hsub : SubSt fp σ σs) (hb : BackSt fp nw σ σs' σ') (hs : SR Γ σ w) (h1 : SR Γ1 σs' w') (hr : Reach (NewC Γ (asSrc fp)) σs w Γ1 σs' w') :
    SR (BackC Γ Γ1 nw σ.length) σ' w' ∧ Reach Γ σ w (BackC Γ Γ1 nw σ.length) σ' w' ∧ Agree (NewC Γ1 (asSrc (backL fp nw σ.length))) (BackC Γ Γ1 nw σ.length) := by
  have hss := hsub.SR hs
  have htr := hr.tr
  have hk : ∀ {k id : Nat}, fp[k]? = some id → id < σ.length ∧ Γ.A id ∧ Γ1.ρ k = Γ.ρ id ∧ Γ1.ez k = Γ.ez id ∧ Γ1.bs k = Γ.bs id := by
    intro k id h
    obtain ⟨st, e, xs, ys, a1, a2, a3⟩ := hsub.row k id h
    have hA := hs.live _ _ a1
    have hA' : (NewC Γ (asSrc fp)).A k := NewC_A.2 ⟨id, h, hA⟩
    obtain ⟨n1, n2, n3⟩ := NewC_at (Γ := Γ) h
    exact ⟨obj_lt a1, hA, by rw [htr.agree.ρ k hA', n1], by rw [htr.agree.ez k hA', n2], by rw [htr.agree.bs k hA', n3]⟩
  have oldC : ∀ {id : Nat}, id < σ.length → (BackC Γ Γ1 nw σ.length).ρ id = Γ.ρ id ∧ (BackC Γ Γ1 nw σ.length).ez id = Γ.ez id ∧ (BackC Γ Γ1 nw σ.length).bs id = Γ.bs id := fun h => ⟨if_pos h, if_pos h, if_pos h⟩
  have newC : ∀ {j k : Nat}, nw[j]? = some k → (BackC Γ Γ1 nw σ.length).ρ (σ.length + j) = Γ1.ρ k ∧ (BackC Γ Γ1 nw σ.length).ez (σ.length + j) = Γ1.ez k ∧ (BackC Γ Γ1 nw σ.length).bs (σ.length + j) = Γ1.bs k := by
    intro j k h
    have hd : nw.getD (σ.length + j - σ.length) 0 = k := by rw [Nat.add_sub_cancel_left, List.getD_eq_getElem?_getD, h]; rfl
    have hn : ¬ σ.length + j < σ.length := by omega
    exact ⟨(if_neg hn).trans (by rw [hd]), (if_neg hn).trans (by rw [hd]), (if_neg hn).trans (by rw [hd])⟩
  have hCC : ∀ b, Γ.C b → Γ1.C b := fun b hb => htr.agree.C b hb
  -- where an object of the new store comes from
  have from' : ∀ {id : Nat} {o : Ob}, σ'.obj id = some o → (id < σ.length ∧ id ∉ fp ∧ σ.obj id = some o) ∨
      (∃ k st e xs ys, σs'.obj k = some (.row st e xs) ∧ o = .row st e ys ∧ RowTo (asSrc (backL fp nw σ.length)) xs ys ∧ (BackC Γ Γ1 nw σ.length).ρ id = Γ1.ρ k ∧ (BackC Γ Γ1 nw σ.length).ez id = Γ1.ez k ∧ (BackC Γ Γ1 nw σ.length).bs id = Γ1.bs k ∧ (fp[k]? = some id ∨ ∃ j, nw[j]? = some k ∧ id = σ.length + j)) := by
    intro id o ho
    have hlt := obj_lt ho
    rw [hb.len] at hlt
    rcases Nat.lt_or_ge id σ.length with h | h
    · by_cases hm : id ∈ fp
      · obtain ⟨k, hk1⟩ := List.getElem?_of_mem hm
        rcases hb.seen k id hk1 with h2 | ⟨st, e, xs, ys, a1, a2, a3⟩
        · rw [h2] at ho; cases ho
        · rw [a2] at ho
          injection ho with ho
          obtain ⟨_, _, b1, b2, b3⟩ := hk hk1
          obtain ⟨c1, c2, c3⟩ := oldC h
          exact .inr ⟨k, st, e, xs, ys, a1, ho.symm, a3, c1.trans b1.symm, c2.trans b2.symm, c3.trans b3.symm, .inl hk1⟩
      · rw [hb.keep id h hm] at ho; exact .inl ⟨h, hm, ho⟩
    · obtain ⟨j, rfl⟩ : ∃ j, id = σ.length + j := ⟨id - σ.length, by omega⟩
      obtain ⟨k, hk1⟩ : ∃ k, nw[j]? = some k := ⟨_, List.getElem?_eq_getElem (by omega)⟩
      rcases hb.new j k hk1 with h2 | ⟨st, e, xs, ys, a1, a2, a3⟩
      · rw [h2] at ho; cases ho
      · rw [a2] at ho
        injection ho with ho
        obtain ⟨c1, c2, c3⟩ := newC hk1
        exact .inr ⟨k, st, e, xs, ys, a1, ho.symm, a3, c1, c2, c3, .inr ⟨j, hk1, rfl⟩⟩
  have hag : Agree Γ (BackC Γ Γ1 nw σ.length) := ⟨hCC, fun id hid => (if_pos (hs.below id hid)).mpr hid, fun id hid => (oldC (hs.below id hid)).1, fun id hid => (oldC (hs.below id hid)).2.1, fun id hid => (oldC (hs.below id hid)).2.2⟩
  have hag2 : Agree (NewC Γ1 (asSrc (backL fp nw σ.length))) (BackC Γ Γ1 nw σ.length) := by
    have key : ∀ id, (NewC Γ1 (asSrc (backL fp nw σ.length))).A id → ∃ k, (backL fp nw σ.length)[id]? = some k ∧ (BackC Γ Γ1 nw σ.length).A id ∧ (BackC Γ Γ1 nw σ.length).ρ id = Γ1.ρ k ∧ (BackC Γ Γ1 nw σ.length).ez id = Γ1.ez k ∧ (BackC Γ Γ1 nw σ.length).bs id = Γ1.bs k := by
      intro id hid
      obtain ⟨k, h2, hA⟩ := NewC_A.1 hid
      refine ⟨k, h2, ?_⟩
      rcases Nat.lt_or_ge id σ.length with h | h
      · rw [backL_old h] at h2
        injection h2 with h2
        cases hi : fp.idxOf? id with
        | none =>
          rw [hi] at h2
          have := h1.below k hA
          have := hb.small
          simp only [Option.getD_none] at h2
          omega
        | some k' =>
          rw [hi] at h2
          simp only [Option.getD_some] at h2
          subst h2
          obtain ⟨_, b0, b1, b2, b3⟩ := hk (idx_get hi)
          obtain ⟨c1, c2, c3⟩ := oldC h
          exact ⟨(if_pos h).mpr b0, c1.trans b1.symm, c2.trans b2.symm, c3.trans b3.symm⟩
      · obtain ⟨j, rfl⟩ : ∃ j, id = σ.length + j := ⟨id - σ.length, by omega⟩
        rw [backL_new] at h2
        obtain ⟨c1, c2, c3⟩ := newC h2
        have hn : ¬ σ.length + j < σ.length := by omega
        refine ⟨(if_neg hn).mpr ⟨k, by rw [Nat.add_sub_cancel_left]; exact h2, hA⟩, c1, c2, c3⟩
    refine ⟨fun b hb => hb, fun id hid => ?_, fun id hid => ?_, fun id hid => ?_, fun id hid => ?_⟩
    · obtain ⟨k, _, h3, _⟩ := key id hid; exact h3
    all_goals
      obtain ⟨k, h2, _, h4, h5, h6⟩ := key id hid
      obtain ⟨n1, n2, n3⟩ := NewC_at (Γ := Γ1) h2
    · rw [n1, h4]
    · rw [n2, h5]
    · rw [n3, h6]
  have hown : ∀ b, Own (NewC Γ (asSrc fp)) σs b → ∃ (k id : Nat), fp[k]? = some id ∧ Γ.ρ id = b ∧ ∃ e xs, σ.obj id = some (.row .own e xs) := by
    rintro b ⟨k, e, ys, ho, hρ⟩
    obtain ⟨id, st, e', xs, ys', a1, a2, a3, _⟩ := hsub.get ho
    injection a3 with a3 a4 a5
    subst a3
    exact ⟨k, id, a1, by rw [← hρ, (NewC_at (Γ := Γ) a1).1], _, _, a2⟩
  have hOwn : ∀ b, Own (NewC Γ (asSrc fp)) σs b → Own Γ σ b := by
    intro b hb
    obtain ⟨k, id, _, h3, e, xs, h4⟩ := hown b hb
    exact ⟨id, e, xs, h4, h3⟩
  -- a block of a row that the callee doesn't see
  have apart : ∀ {id : Nat} {o : Ob}, σ.obj id = some o → id ∉ fp → ¬ Own (NewC Γ (asSrc fp)) σs (Γ.ρ id) := by
    intro id o ho hm hO
    obtain ⟨k, id', a1, a2, e, xs, a3⟩ := hown _ hO
    have := hs.inj _ _ _ _ a3 ho a2
    subst this
    exact hm (List.mem_of_getElem? a1)
  have same : ∀ {id : Nat} {st : St} {e : Nat} {xs : List D}, σ.obj id = some (.row st e xs) → Γ.ρ id < w.heap.size := by
    intro id st e xs ho
    obtain ⟨⟨_, _, c, ee, us, rest, k3, _⟩, _⟩ := hs.row _ _ _ _ ho
    exact (Array.getElem?_eq_some_iff.1 k3).1
  refine ⟨⟨fun id st esz ys ho => ?_, fun id st kvs ho => ?_, fun id id' o o' ho ho' hρ => ?_, fun id o ho => ?_, fun b hb => h1.old b hb, fun id hid => ?_⟩,
    ⟨⟨hag, fun b hb => ?_, fun b hb' => ?_, fun b hb' hn => htr.kept b hb' fun hO => hn (hOwn b hO), htr.os, htr.tape, htr.output, htr.size⟩, by rw [hb.len]; omega, fun id hid => ?_⟩, hag2⟩
  · rcases from' ho with ⟨hlt, hm, ho⟩ | ⟨k, st', e', xs, ys', a1, a2, a3, b1, b2, b3, _⟩
    · obtain ⟨⟨k1, k2, c, ee, us, rest, k3, k4, k5, k6⟩, l1, l2⟩ := hs.row _ _ _ _ ho
      obtain ⟨c1, c2, c3⟩ := oldC hlt
      have hblk := htr.kept (Γ.ρ id) (same ho) (apart ho hm)
      refine ⟨⟨by rw [c2]; exact k1, k2, c, ee, us, rest, by rw [c1, hblk]; exact k3, by rw [c3]; exact k4, k5, k6.mono hag fun b hb => htr.kept b (hs.old b hb) fun hO => hs.notOwn hb (hOwn b hO)⟩, fun hst => ?_, fun hst => ?_⟩
      · rw [c1]
        intro hC
        rcases htr.cnew _ hC with h2 | h2 | h2
        · exact l1 hst h2
        · have := same ho; omega
        · exact apart ho hm h2
      · rw [c1]; exact hCC _ (l2 hst)
    · injection a2 with a4 a5 a6
      subst a4 a5 a6
      obtain ⟨⟨k1, k2, c, ee, us, rest, k3, k4, k5, k6⟩, l1, l2⟩ := h1.row _ _ _ _ a1
      exact ⟨⟨by rw [b2]; exact k1, k2, c, ee, us, rest, by rw [b1]; exact k3, by rw [b3]; exact k4, k5, (a3.RE k6).mono hag2 fun _ _ => rfl⟩, fun hst => by rw [b1]; exact l1 hst, fun hst => by rw [b1]; exact l2 hst⟩
  · rcases from' ho with ⟨hlt, hm, ho⟩ | ⟨k, st', e', xs, ys', a1, a2, a3, b1, b2, b3, _⟩
    · exact hs.nomap _ _ _ ho
    · cases a2
  · have cross : ∀ {id id' : Nat} {o : Ob} {k : Nat} {st : St} {e : Nat} {xs : List D}, id < σ.length → id ∉ fp → σ.obj id = some o → σs'.obj k = some (.row st e xs) → (fp[k]? = some id' ∨ ∃ j, nw[j]? = some k ∧ id' = σ.length + j) → Γ.ρ id = Γ1.ρ k → False := by
      intro id id' o k st e xs hlt hm ho hk1 hw he
      rcases hw with hw | ⟨j, hj, rfl⟩
      · obtain ⟨st2, e2, x2, y2, a1, _, _⟩ := hsub.row k id' hw
        have := hs.inj _ _ _ _ ho a1 (he.trans (hk hw).2.2.1)
        subst this
        exact hm (List.mem_of_getElem? hw)
      · obtain ⟨_, hg⟩ := hb.ge k (List.mem_of_getElem? hj)
        obtain ⟨e', xs', hg⟩ := hg _ hk1
        injection hg with g1 g2 g3
        subst g1
        cases o with
        | map st kvs => exact hs.nomap _ _ _ ho
        | row st' e'' xs'' =>
        rcases htr.own _ ⟨k, _, _, hk1, rfl⟩ with h2 | h2
        · rw [← he] at h2; exact apart ho hm h2
        · have := same ho; omega
    rcases from' ho with ⟨hlt, hm, ho⟩ | ⟨k, st, e, xs, ys, a1, a2, a3, b1, b2, b3, hw1⟩ <;> rcases from' ho' with ⟨hlt', hm', ho'⟩ | ⟨k', st', e', xs', ys', a1', a2', a3', b1', b2', b3', hw2⟩
    · rw [(oldC hlt).1, (oldC hlt').1] at hρ
      exact hs.inj _ _ _ _ ho ho' hρ
    · rw [(oldC hlt).1, b1'] at hρ
      exact (cross hlt hm ho a1' hw2 hρ).elim
    · rw [(oldC hlt').1, b1] at hρ
      exact (cross hlt' hm' ho' a1 hw1 hρ.symm).elim
    · rw [b1, b1'] at hρ
      have := h1.inj _ _ _ _ a1 a1' hρ
      subst this
      rcases hw1 with hw1 | ⟨j, hj, rfl⟩ <;> rcases hw2 with hw2 | ⟨j', hj', rfl⟩
      · rw [hw1] at hw2; injection hw2
      · have := (hb.ge _ (List.mem_of_getElem? hj')).1
        have := (List.getElem?_eq_some_iff.1 hw1).1
        omega
      · have := (hb.ge _ (List.mem_of_getElem? hj)).1
        have := (List.getElem?_eq_some_iff.1 hw2).1
        omega
      · obtain ⟨l1, g1⟩ := List.getElem?_eq_some_iff.1 hj
        obtain ⟨l2, g2⟩ := List.getElem?_eq_some_iff.1 hj'
        rw [(List.getElem_inj (h₀ := l1) (h₁ := l2) hb.nodup).1 (g1.trans g2.symm)]
  · rcases from' ho with ⟨hlt, hm, ho⟩ | ⟨k, st, e, xs, ys, a1, a2, a3, b1, b2, b3, hw1⟩
    · exact (if_pos hlt).mpr (hs.live _ _ ho)
    · rcases hw1 with hw1 | ⟨j, hj, rfl⟩
      · exact (if_pos (hk hw1).1).mpr (hk hw1).2.1
      · exact (if_neg (by omega)).mpr ⟨k, by rw [Nat.add_sub_cancel_left]; exact hj, h1.live _ _ a1⟩
  · rw [hb.len]
    rcases Nat.lt_or_ge id σ.length with h | h
    · omega
    · obtain ⟨k, hk1, _⟩ := (if_neg (show ¬ id < σ.length by omega)).mp hid
      have := (List.getElem?_eq_some_iff.1 hk1).1
      omega
  · rcases htr.cnew b hb with h2 | h2 | h2
    · exact .inl h2
    · exact .inr (.inl h2)
    · exact .inr (.inr (hOwn b h2))
  · obtain ⟨id, e, ys, ho, hρ⟩ := hb'
    rcases from' ho with ⟨hlt, hm, ho⟩ | ⟨k, st, e', xs, ys', a1, a2, a3, b1, b2, b3, hw1⟩
    · exact .inl ⟨id, e, ys, ho, by rw [← hρ, (oldC hlt).1]⟩
    · injection a2 with a4 a5 a6
      subst a4
      rcases htr.own _ ⟨k, _, _, a1, rfl⟩ with h2 | h2
      · rw [← b1, hρ] at h2; exact .inl (hOwn b h2)
      · rw [← b1, hρ] at h2; exact .inr h2
  · rcases Nat.lt_or_ge id σ.length with h | h
    · exact .inl ((if_pos h).mp hid)
    · exact .inr h
/-- What a call does among other objects. -/
theorem RefFun.frame {f : FuncId} {args : List D} {rs : D} {fp nw : List Nat} (hsub : SubSt fp σ σs) (hb : BackSt fp nw σ σs' σ') (h : RefFun P f (args.map (ren (asSrc fp))) σs rs σs') : RefFun P f args σ (ren (asSrc (backL fp nw σ.length)) rs) σ' := by
  intro Γ w vargs hs hargs
  have hargs' : R (NewC Γ (asSrc fp)) w none (args.map (ren (asSrc fp))) vargs.toList := by
    generalize vargs.toList = vs at hargs
    clear h
    induction args generalizing vs with
    | nil => rw [hargs.nil_inv]; exact .nil _
    | cons d ds ih =>
      obtain ⟨v, vs', rfl, h1, h2⟩ := hargs.cons_inv
      exact R.cons h1.ren (ih _ h2)
  refine (h _ w vargs (hsub.SR hs) hargs').mono ?_
  rintro x w' ⟨v, Γ1, rfl, k1, k2, k3⟩
  obtain ⟨l1, l2, l3⟩ := hb.ok hsub hs k2 k3
  exact ⟨v, _, rfl, k1.ren.mono l3 fun _ _ => rfl, l1, l2⟩

/-! ### a call by reference whose result is data: what it made besides is forgotten -/
def hideB (n : Nat) (σ : Store) : Store := List.replicate n none ++ σ.drop n
def baseSrc (ps : List Bool) : List (Nat × Bool) := (List.range ps.length).map fun i => (i, ps.getD i true)
def endRF (P : Program) (fn : Func) (ps : List Bool) (r : D) (σ' : Store) : KC := fun ex e L σ =>
  match ex with
  | .exit _ => False
  | _ => onO (resultsD P fn.results.toList e σ) fun d => frzW (hideB ps.length σ) d fun r' => r' = r ∧ rowsWk (baseSrc ps) σ (baseSrc ps) σ'
def wpRF (P : Program) (C : WCfg) (fn : Func) (args : List D) (σ : Store) (ps : List Bool) (r : D) (σ' : Store) : Prop :=
  wpC P C (bodyOf fn) (entry args) (fun _ => .no) σ (endRF P fn ps r σ')
theorem hideB_obj {n : Nat} {σ : Store} {id : Nat} {o : Ob} (h : (hideB n σ).obj id = some o) : n ≤ id ∧ σ.obj id = some o := by
  unfold hideB Store.obj at h
  rcases Nat.lt_or_ge id n with hl | hl
  · rw [List.getElem?_append_left (by simpa using hl), List.getElem?_replicate, if_pos hl] at h
    cases h
  · rw [List.getElem?_append_right (by simpa using hl), List.getElem?_drop, List.length_replicate] at h
    rw [show n + (id - n) = id by omega] at h
    exact ⟨hl, h⟩
theorem onlyB_obj {n m : Nat} {σ : Store} {id : Nat} {o : Ob} (h : Store.obj (σ.take n ++ List.replicate m none) id = some o) : id < n ∧ σ.obj id = some o := by
  unfold Store.obj at h
  rcases Nat.lt_or_ge id (σ.take n).length with hl | hl
  · rw [List.getElem?_append_left hl, List.getElem?_take] at h
    rw [List.length_take] at hl
    rw [if_pos (by omega)] at h
    exact ⟨by omega, h⟩
  · rw [List.getElem?_append_right hl, List.getElem?_replicate] at h
    split at h <;> cases h
theorem baseSrc_fst (ps : List Bool) : (baseSrc ps).map (·.1) = List.range ps.length := by
  unfold baseSrc
  rw [List.map_map]
  exact (List.map_congr_left fun _ _ => rfl).trans (List.map_id _)
theorem baseSrc_base (ps : List Bool) : baseWk ps.length (baseSrc ps) = true := by
  unfold baseWk
  rw [baseSrc_fst, Bool.and_eq_true, List.all_eq_true, decide_eq_true_eq]
  exact ⟨fun i hi => by rw [List.getElem?_range (List.mem_range.1 hi)]; simp, List.nodup_range⟩
theorem refFun_okF {C : WCfg} (hC : SpecsOk P C) (hmix : P.follows .mixedOrders = true) {f : FuncId} {fn : Func} (hf : P.funcs[f]? = some fn) (hg : goodFn C.M fn = true) (hl : LoopsIn C.unr (LoopFits P C fn.ntmps) (bodyOf fn)) {args : List D} (hn : args.length = fn.params.size + fn.nfree)
    {σ σ' : Store} (ps : List Bool) (hps : ps.length = σ.length) (h0 : C.n0 = ps.length) {r : D} (h : wpRF P C fn args σ ps r σ') : RefFun P f args σ r σ' := by
  intro Γ w vargs hs hargs
  unfold goodFn at hg
  simp only [Bool.and_eq_true, bne_iff_ne, ne_eq, decide_eq_true_eq] at hg
  obtain ⟨⟨hname, hnt⟩, hbody⟩ := hg
  cases hc : fn.body with
  | none => rw [hc] at hbody; cases hbody
  | some c =>
    rw [hc] at hbody
    simp only at hbody
    have hbo : bodyOf fn = c := by unfold bodyOf; rw [hc]
    unfold wpRF at h
    rw [hbo] at h hl
    refine .inl ⟨⟨fn, hf, hname, by rw [hc]; rfl⟩, ?_⟩
    refine calls_of_wp hf hc ?_
    have hlen : args.length = vargs.size := by simpa using hargs.length
    have htri := wpC_ok hC hmix hbody hl h
    rw [h0, hps] at htri
    refine htri Γ σ w Γ w _ _ rfl (fun id hid => hs.below id hid) (.refl _ _ _) (entry_slots hargs _) hs (by simp; omega) ?_
    rintro ex e' σ1 a' w' ⟨L, hq⟩ ⟨Γ', k1, k2, k3, k4, k5⟩
    have key : onO (resultsD P fn.results.toList e' σ1) (fun d => frzW (hideB ps.length σ1) d fun r' => r' = r ∧ rowsWk (baseSrc ps) σ1 (baseSrc ps) σ') → ∃ v, (results fn a'.tmps).run P w' = .ok v w' ∧ Post Γ σ w r σ' (.returned v) w' := by
      intro hq
      obtain ⟨d, h1, h2⟩ := onO_ok hq
      obtain ⟨r', h3, rfl, hrows⟩ := frzW_ok h2 0
      obtain ⟨v, hv, hrel⟩ := results_ok k2 k1 h1
      refine ⟨v, hv, v, ?_⟩
      have htr := k3.tr
      -- the new rows' blocks are never written any more
      let Γm : Ctx := { Γ' with C := fun b => Γ'.C b ∨ ∃ id st e xs, ps.length ≤ id ∧ σ1.obj id = some (.row st e xs) ∧ st ≠ .shut ∧ Γ'.ρ id = b }
      have hagm : Agree Γ' Γm := ⟨fun b hb => .inl hb, fun _ h => h, fun _ _ => rfl, fun _ _ => rfl, fun _ _ => rfl⟩
      have hsn : SR Γ' (hideB ps.length σ1) w' := by
        refine ⟨fun id st e xs ho => k2.row _ _ _ _ (hideB_obj ho).2, fun id st kvs ho => k2.nomap _ _ _ (hideB_obj ho).2, fun id id' o o' a b c => k2.inj _ _ _ _ (hideB_obj a).2 (hideB_obj b).2 c, fun id o ho => k2.live _ _ (hideB_obj ho).2, k2.old, fun id hid => ?_⟩
        have := k2.below id hid
        unfold hideB
        rw [List.length_append, List.length_replicate, List.length_drop]
        omega
      have hdata : DataR Γm.C w' r' v := frz_ok (Γ' := Γm) hsn hagm hrel h3 fun id st e xs hst ho => .inr ⟨id, st, e, xs, (hideB_obj ho).1, (hideB_obj ho).2, hst, rfl⟩
      have hlen1 : σ.length ≤ σ1.length := k3.len
      have hsm : SR Γm (σ1.take ps.length ++ List.replicate (σ1.length - ps.length) none) w' := by
        refine ⟨fun id st e xs ho => ?_, fun id st kvs ho => k2.nomap _ _ _ (onlyB_obj ho).2, fun id id' o o' a b c => k2.inj _ _ _ _ (onlyB_obj a).2 (onlyB_obj b).2 c, fun id o ho => k2.live _ _ (onlyB_obj ho).2, fun b hb => ?_, fun id hid => ?_⟩
        · obtain ⟨hid, ho⟩ := onlyB_obj ho
          obtain ⟨⟨j1, j2, c, ee, us, rest, j3, j4, j5, j6⟩, l1, l2⟩ := k2.row _ _ _ _ ho
          refine ⟨⟨j1, j2, c, ee, us, rest, j3, j4, j5, j6.mono hagm fun _ _ => rfl⟩, fun hst => ?_, fun hst => .inl (l2 hst)⟩
          rintro (hb | ⟨id', st', e', xs', g1, g2, g3, g4⟩)
          · exact l1 hst hb
          · have := k2.inj _ _ _ _ g2 ho g4
            omega
        · rcases hb with hb | ⟨id', st', e', xs', g1, g2, g3, rfl⟩
          · exact k2.old b hb
          · obtain ⟨⟨_, _, c, ee, us, rest, j3, _⟩, _⟩ := k2.row _ _ _ _ g2
            exact (Array.getElem?_eq_some_iff.1 j3).1
        · have := k2.below id hid
          rw [List.length_append, List.length_take, List.length_replicate]
          omega
      have hrm : Reach Γ σ w Γm (σ1.take ps.length ++ List.replicate (σ1.length - ps.length) none) w' := by
        refine ⟨⟨htr.agree.trans hagm, fun b hb => ?_, fun b hb => ?_, htr.kept, htr.os, htr.tape, htr.output, htr.size⟩, ?_, fun id hid => k3.anew id hid⟩
        · rcases hb with hb | ⟨id', st', e', xs', g1, g2, g3, rfl⟩
          · exact htr.cnew b hb
          · cases st' with
            | own =>
              rcases htr.own _ ⟨id', _, _, g2, rfl⟩ with h | h
              · exact .inr (.inr h)
              · exact .inr (.inl h)
            | cst => exact htr.cnew _ ((k2.row _ _ _ _ g2).2.2 rfl)
            | shut => exact absurd rfl g3
        · obtain ⟨id, e, xs, ho, hρ⟩ := hb
          exact htr.own b ⟨id, e, xs, (onlyB_obj ho).2, hρ⟩
        · rw [List.length_append, List.length_take, List.length_replicate]; omega
      have hobj : ∀ i, i < ps.length → Store.obj (σ1.take ps.length ++ List.replicate (σ1.length - ps.length) none) i = σ1.obj i := by
        intro i hi
        unfold Store.obj
        rw [List.getElem?_append_left (by rw [List.length_take]; omega), List.getElem?_take, if_pos hi]
      have hrows2 : ∀ (s : List (Nat × Bool)) (τ : Store), (∀ x ∈ s, x.1 < ps.length) → rowsWk (baseSrc ps) σ1 s τ → rowsWk (baseSrc ps) (σ1.take ps.length ++ List.replicate (σ1.length - ps.length) none) s τ := by
        intro s
        induction s with
        | nil => intro τ _ h; cases τ <;> exact h
        | cons x s ih =>
          intro τ hx h
          obtain ⟨id, p⟩ := x
          cases τ with
          | nil => cases s <;> exact h
          | cons o τ =>
            have h := rowsWk_cons h
            have h1 : RowWk (baseSrc ps) p (Store.obj (σ1.take ps.length ++ List.replicate (σ1.length - ps.length) none) id) o := by rw [hobj id (hx _ (List.mem_cons_self ..))]; exact h.1
            have h2 := ih τ (fun y hy => hx y (List.mem_cons_of_mem _ hy)) h.2
            cases s with
            | nil => cases τ with
              | nil => exact h1
              | cons => exact ⟨h1, h2⟩
            | cons => exact ⟨h1, h2⟩
      have hwk : Wk ps.length (baseSrc ps) (fun _ => .any) (σ1.take ps.length ++ List.replicate (σ1.length - ps.length) none) [] σ' := by
        unfold Wk
        rw [baseSrc_base]
        have hr2 := hrows2 (baseSrc ps) σ' (fun x hx => by
          have : x.1 ∈ (baseSrc ps).map (·.1) := List.mem_map_of_mem hx
          rw [baseSrc_fst] at this
          exact List.mem_range.1 this) hrows
        unfold onB
        simp only
        split
        · trivial
        · exact ⟨trivial, hr2⟩
      have hsl : Slots Γm w' (fun _ => .any) a' := fun t => R1.any
      obtain ⟨Γf, f0, f1, f2, f3⟩ := hwk.okC hps.symm hrm hsl hsm fun id hid => by rw [hps]; exact hs.below id hid
      exact ⟨Γf, rfl, hdata Γf fun b hb => by rw [f0]; exact hb, f3, f1⟩
    cases ex with
    | exit id => exact hq.elim
    | normal => obtain ⟨v, hv, hp⟩ := key hq; exact ⟨k5, v, hv, hp⟩
    | ret => obtain ⟨v, hv, hp⟩ := key hq; exact ⟨k5, v, hv, hp⟩

/-! ### a call by reference in general: what is left, under new names -/
def withIdx (n : Nat) : List D → List (Nat × D)
  | [] => []
  | r :: rs => (n, r) :: withIdx (n + 1) rs
theorem withIdx_lookup : ∀ (rs : List D) (n t : Nat), (withIdx n rs).lookup (n + t) = rs[t]?
  | [], n, t => rfl
  | r :: rs, n, 0 => by simp [withIdx, List.lookup_cons]
  | r :: rs, n, t + 1 => by
    have := withIdx_lookup rs (n + 1) t
    rw [show n + (t + 1) = n + 1 + t by omega]
    simp only [withIdx, List.lookup_cons]
    rw [show (n + 1 + t == n) = false by simp; omega]
    simpa using this
def endV (n0 : Nat) (src : List (Nat × Bool)) (d r : D) (σ σ' : Store) : Prop := match d, r with
  | .tup ds, .tup rs => onB (decide (ds.length = rs.length)) (Wk n0 src (fun t => (ds[t]?).getD .any) σ (withIdx 0 rs) σ')
  | d, r => Wk n0 src (fun t => match t with | 0 => d | _ => .any) σ [(0, r)] σ'
def endRW (P : Program) (n0 : Nat) (fn : Func) (src : List (Nat × Bool)) (r : D) (σ' : Store) : KC := fun ex e L σ =>
  match ex with
  | .exit _ => False
  | _ => onO (resultsD P fn.results.toList e σ) fun d => endV n0 src d r σ σ'
def wpRW (P : Program) (C : WCfg) (fn : Func) (args : List D) (σ : Store) (src : List (Nat × Bool)) (r : D) (σ' : Store) : Prop :=
  wpC P C (bodyOf fn) (entry args) (fun _ => .no) σ (endRW P C.n0 fn src r σ')
theorem refFun_okW {C : WCfg} (hC : SpecsOk P C) (hmix : P.follows .mixedOrders = true) {f : FuncId} {fn : Func} (hf : P.funcs[f]? = some fn) (hg : goodFn C.M fn = true) (hl : LoopsIn C.unr (LoopFits P C fn.ntmps) (bodyOf fn)) {args : List D} (hn : args.length = fn.params.size + fn.nfree)
    {σ σ' : Store} (src : List (Nat × Bool)) (h0 : C.n0 = σ.length) {r : D} (h : wpRW P C fn args σ src r σ') : RefFun P f args σ r σ' := by
  intro Γ w vargs hs hargs
  unfold goodFn at hg
  simp only [Bool.and_eq_true, bne_iff_ne, ne_eq, decide_eq_true_eq] at hg
  obtain ⟨⟨hname, hnt⟩, hbody⟩ := hg
  cases hc : fn.body with
  | none => rw [hc] at hbody; cases hbody
  | some c =>
    rw [hc] at hbody
    simp only at hbody
    have hbo : bodyOf fn = c := by unfold bodyOf; rw [hc]
    unfold wpRW at h
    rw [hbo] at h hl
    refine .inl ⟨⟨fn, hf, hname, by rw [hc]; rfl⟩, ?_⟩
    refine calls_of_wp hf hc ?_
    have hlen : args.length = vargs.size := by simpa using hargs.length
    have htri := wpC_ok hC hmix hbody hl h
    rw [h0] at htri
    refine htri Γ σ w Γ w _ _ rfl (fun id hid => hs.below id hid) (.refl _ _ _) (entry_slots hargs _) hs (by simp; omega) ?_
    rintro ex e' σ1 a' w' ⟨L, hq⟩ ⟨Γ', k1, k2, k3, k4, k5⟩
    have key : onO (resultsD P fn.results.toList e' σ1) (fun d => endV σ.length src d r σ1 σ') → ∃ v, (results fn a'.tmps).run P w' = .ok v w' ∧ Post Γ σ w r σ' (.returned v) w' := by
      clear hq
      intro hq
      obtain ⟨d, h1, h2⟩ := onO_ok hq
      obtain ⟨v, hv, hrel⟩ := results_ok k2 k1 h1
      refine ⟨v, hv, v, ?_⟩
      unfold endV at h2
      clear h htri hv h1
      clear hq
      split at h2
      · rename_i ds rs
        obtain ⟨hlen2, hwk⟩ := onB_ok h2
        have hlen2 := of_decide_eq_true hlen2
        obtain ⟨us, rfl, hus⟩ := R1.tup.1 hrel
        have hsl : Slots Γ' w' (fun t => (ds[t]?).getD .any) ({ a' with tmps := us.toArray } : Act) := by
          intro t
          show R1 Γ' w' ((ds[t]?).getD .any) _
          cases hd : ds[t]? with
          | none => exact R1.any
          | some d =>
            rw [Option.getD_some]
            obtain ⟨u, hu, hr1⟩ := hus.get hd
            have : (us.toArray).getD t Go.undef = u := by simp [hu]
            rw [show ({ a' with tmps := us.toArray } : Act).tmps = us.toArray from rfl, this]
            exact hr1
        obtain ⟨Γf, f1, f2, f3⟩ := hwk.ok rfl k3 hsl k2 fun id hid => hs.below id hid
        refine ⟨Γf, rfl, R1.tup.2 ⟨us, rfl, R.of_get (by rw [← hlen2]; exact hus.length) fun i d u hd hu => ?_⟩, f3, f1⟩
        have := f2 i
        have hl0 := withIdx_lookup rs 0 i
        rw [Nat.zero_add] at hl0
        have e1 : tb (withIdx 0 rs) i = d := by unfold tb; rw [hl0, hd]; rfl
        have e2 : ({ a' with tmps := us.toArray } : Act).tmps.getD i Go.undef = u := by
          show (us.toArray).getD i Go.undef = u
          simp [hu]
        rw [e1, e2] at this
        exact this
      · have hsl : Slots Γ' w' (fun t => match t with | 0 => d | _ => .any) ({ a' with tmps := #[v] } : Act) := by
          intro t
          cases t with
          | zero => exact hrel
          | succ t => exact R1.any
        obtain ⟨Γf, f1, f2, f3⟩ := Wk.ok h2 rfl k3 hsl k2 fun id hid => hs.below id hid
        exact ⟨Γf, rfl, f2 0, f3, f1⟩
    cases ex with
    | exit id => exact hq.elim
    | normal => obtain ⟨v, hv, hp⟩ := key hq; exact ⟨k5, v, hv, hp⟩
    | ret => obtain ⟨v, hv, hp⟩ := key hq; exact ⟨k5, v, hv, hp⟩

/-! ### contracts of calls by reference -/
structure RCtr where
  f : FuncId
  s : List D → Store → Option (Prop × D × Store)
  ro : Bool := false
  ok : ∀ vs σ p r σ', s vs σ = some (p, r, σ') → p → RefFun Try.prog f vs σ r σ'
  hro : ro = true → ∀ vs σ p r σ', s vs σ = some (p, r, σ') → σ' = σ
def bspecOf (l : List RCtr) : SpecB := fun f vs σ => l.findSome? fun c => match c.f == f with
  | true => c.s vs σ
  | false => none
def byrefOf (l : List RCtr) : FuncId → Bool := fun f => l.any fun c => c.f == f
def roOf (l : List RCtr) : FuncId → Bool := fun f => l.any (fun c => c.f == f) && l.all fun c => !(c.f == f) || c.ro
theorem ctrsR_ok {C : WCfg} (l : List Ctr) (m : List RCtr) (h : C.spec = specOf l) (hb : C.bspec = bspecOf m) (hy : C.byref = byrefOf m) (hr : C.ro = roOf m) : SpecsOk Try.prog C := by
  constructor
  · intro g vs o ho hp
    rw [h] at ho
    unfold specOf at ho
    obtain ⟨c, _, hc⟩ := List.exists_of_findSome?_eq_some ho
    split at hc
    · rename_i he
      rw [beq_iff_eq] at he
      subst he
      exact c.ok vs o hc hp
    · cases hc
  · intro g vs σ p r σ' _ hs hp
    rw [hb] at hs
    unfold bspecOf at hs
    obtain ⟨c, _, hc⟩ := List.exists_of_findSome?_eq_some hs
    split at hc
    · rename_i he
      rw [beq_iff_eq] at he
      subst he
      exact c.ok vs σ p r σ' hc hp
    · cases hc
  · intro g vs σ p r σ' _ hro hs
    rw [hb] at hs
    rw [hr] at hro
    unfold bspecOf at hs
    obtain ⟨c, hm, hc⟩ := List.exists_of_findSome?_eq_some hs
    split at hc
    · rename_i he
      unfold roOf at hro
      rw [Bool.and_eq_true, List.all_eq_true] at hro
      have := hro.2 c hm
      rw [he] at this
      exact c.hro (by simpa using this) vs σ p r σ' hc
    · cases hc
theorem refFunF {C : WCfg} (hC : SpecsOk Try.prog C) (ps : List Bool) {σ σ' : Store} (hps : ps.length = σ.length) (h0 : C.n0 = ps.length) {f : FuncId} {fn : Func} (hf : Try.prog.funcs[f]? = some fn) (hg : goodFn C.M fn = true) {l : List Code} (hl : loops1 C.unr (bodyOf fn) = l) (hT : ∀ x ∈ l, LoopFits Try.prog C fn.ntmps x) {args : List D} (hn : args.length = fn.params.size + fn.nfree)
    {r : D} {q : Prop} (h : wpRF Try.prog C fn args σ ps r σ' = q) (hq : q) : RefFun Try.prog f args σ r σ' := refFun_okF hC mix hf hg (loopsIn_of hl hT) hn ps hps h0 (of_nf h hq)
theorem refFunW {C : WCfg} (hC : SpecsOk Try.prog C) (src : List (Nat × Bool)) {σ σ' : Store} (h0 : C.n0 = σ.length) {f : FuncId} {fn : Func} (hf : Try.prog.funcs[f]? = some fn) (hg : goodFn C.M fn = true) {l : List Code} (hl : loops1 C.unr (bodyOf fn) = l) (hT : ∀ x ∈ l, LoopFits Try.prog C fn.ntmps x) {args : List D} (hn : args.length = fn.params.size + fn.nfree)
    {r : D} {q : Prop} (h : wpRW Try.prog C fn args σ src r σ' = q) (hq : q) : RefFun Try.prog f args σ r σ' := refFun_okW hC mix hf hg (loopsIn_of hl hT) hn src h0 (of_nf h hq)
end Go.Proofs.Ytgibpomhiilehaa.Dv
