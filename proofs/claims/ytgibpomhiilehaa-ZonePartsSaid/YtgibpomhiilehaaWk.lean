/- Triples over the evaluator's states at the machine: new names for objects, what is forgotten, loops. -/
import Derived.Test.YtgibpomhiilehaaDvSound
set_option linter.unusedVariables false
set_option linter.unusedSimpArgs false
namespace Go.Proofs.Ytgibpomhiilehaa.Dv
open Go

/-! ### new names -/
def rid (src : List (Nat × Bool)) (id : Nat) : Option Nat := (src.map (·.1)).idxOf? id
def renLeaf (src : List (Nat × Bool)) : D → D
  | .ptr id i j => match rid src id with | some k => .ptr k i j | none => .any
  | .ms id off len cap ex => match rid src id with | some k => .ms k off len cap ex | none => .any
  | .mp _ | .fn .. | .agg _ | .tup _ => .any
  | d => d
def ren (src : List (Nat × Bool)) : D → D
  | .agg ds => let es := ds.map (renLeaf src); if es.all D.leaf then .agg es else .any
  | .fn f as bs => .fn f (as.map (renLeaf src)) (bs.map (renLeaf src))
  | d => renLeaf src d
def tb (l : List (Nat × D)) : Env := fun i => (l.lookup i).getD .any
/-- A row, of data alone or of one's names. -/
def RowWk (src : List (Nat × Bool)) (p : Bool) (o o' : Option Ob) : Prop :=
  match p with
  | true => o' = none ∨ (o' = o ∧ match o with | some (.row _ _ xs) => xs.all D.pure = true | _ => False)
  | false => match o with
    | some (.row st e xs) => o' = some (.row st e (xs.map (ren src))) ∧ ((xs.map (ren src)).all D.elem && decide ((xs.map (ren src)).map (fun d => d.cells.length) = xs.map (fun d => d.cells.length))) = true
    | _ => o' = none
def rowsWk (src : List (Nat × Bool)) (σ : Store) : List (Nat × Bool) → Store → Prop
  | [], [] => True
  | [(id, p)], [o'] => RowWk src p (σ.obj id) o'
  | (id, p) :: s, o' :: σ' => RowWk src p (σ.obj id) o' ∧ rowsWk src σ s σ'
  | _, _ => False
def slotsWk (src : List (Nat × Bool)) (e : Env) : List (Nat × D) → Prop
  | [] => True
  | [(t, v)] => v = ren src (e t)
  | (t, v) :: x :: l => v = ren src (e t) ∧ slotsWk src e (x :: l)
def onB (b : Bool) (p : Prop) : Prop := match b with | true => p | false => False
theorem onB_ok {b : Bool} {p : Prop} (h : onB b p) : b = true ∧ p := by
  unfold onB at h
  split at h
  · exact ⟨rfl, h⟩
  · exact h.elim
def baseWk (n0 : Nat) (src : List (Nat × Bool)) : Bool := ((List.range n0).all fun i => (src.map (·.1))[i]? == some i) && decide (src.map (·.1)).Nodup
/-- From one state of the evaluator to one that says less, with new names. -/
def Wk (n0 : Nat) (src : List (Nat × Bool)) (e : Env) (σ : Store) (l : List (Nat × D)) (σ' : Store) : Prop :=
  onB (baseWk n0 src) (match src, σ' with
    | [], [] => slotsWk [] e l
    | src, σ' => slotsWk src e l ∧ rowsWk src σ src σ')
theorem Wk.out {n0 : Nat} {src : List (Nat × Bool)} {e : Env} {σ : Store} {l : List (Nat × D)} {σ' : Store} (h : Wk n0 src e σ l σ') : baseWk n0 src = true ∧ slotsWk src e l ∧ rowsWk src σ src σ' := by
  unfold Wk at h
  obtain ⟨h1, h2⟩ := onB_ok h
  split at h2
  · exact ⟨h1, h2, trivial⟩
  · exact ⟨h1, h2⟩

variable {P : Program} {M : Modes} {Γ Γ' Γ0 : Ctx} {w w' w0 : World} {σ σ' σ0 : Store} {e : Env} {a : Act}

def NewC (Γ : Ctx) (src : List (Nat × Bool)) : Ctx :=
  { C := Γ.C, A := fun k => ∃ id, (src.map (·.1))[k]? = some id ∧ Γ.A id
    ρ := fun k => Γ.ρ ((src.map (·.1)).getD k 0), ez := fun k => Γ.ez ((src.map (·.1)).getD k 0), bs := fun k => Γ.bs ((src.map (·.1)).getD k 0) }
theorem rid_get {src : List (Nat × Bool)} {id k : Nat} (h : rid src id = some k) : (src.map (·.1))[k]? = some id := by
  unfold rid at h
  generalize src.map (·.1) = l at *
  rw [List.idxOf?_eq_some_iff] at h
  obtain ⟨h1, h2, _⟩ := h
  rw [List.getElem?_eq_getElem h1]
  simpa using h2
theorem newC_at {src : List (Nat × Bool)} {id k : Nat} (h : rid src id = some k) (hA : Γ.A id) : (NewC Γ src).A k ∧ (NewC Γ src).ρ k = Γ.ρ id ∧ (NewC Γ src).ez k = Γ.ez id ∧ (NewC Γ src).bs k = Γ.bs id := by
  have := rid_get h
  have hd : (src.map (·.1)).getD k 0 = id := by rw [List.getD_eq_getElem?_getD, this]; rfl
  exact ⟨⟨id, this, hA⟩, by simp only [NewC, hd], by simp only [NewC, hd], by simp only [NewC, hd]⟩
theorem pure_cellsM {x : D} (h : x.pure = true) : x.cells.all (freeM none) = true := by
  rw [List.all_eq_true]
  intro y hy
  cases x with
  | agg ds =>
    simp only [D.cells] at hy
    simp only [D.pure, List.all_eq_true] at h
    have := h y hy
    simp only [freeM]
    exact pure_free (pleaf_pure this)
  | _ =>
    simp only [D.cells, List.mem_singleton] at hy
    subst hy
    simp only [freeM]
    exact pure_free h
theorem renLeaf_flat (src : List (Nat × Bool)) (d : D) : (renLeaf src d).isAgg = false := by
  cases d with
  | ptr id i j => show D.isAgg (match rid src id with | some k => D.ptr k i j | none => .any) = false; cases rid src id <;> rfl
  | ms id off len cap ex => show D.isAgg (match rid src id with | some k => D.ms k off len cap ex | none => .any) = false; cases rid src id <;> rfl
  | _ => rfl
theorem cells_flat {d : D} (h : d.isAgg = false) : d.cells = [d] := by cases d <;> first | rfl | (cases h)
theorem R1.renLeaf {src : List (Nat × Bool)} {d : D} {v : Value} (h : R1 Γ w d v) : R1 (NewC Γ src) w (renLeaf src d) v := by
  have free : ∀ d, d.free = true → R1 Γ w d v → R1 (NewC Γ src) w d v := fun d hd h => R.free (Γ := Γ) (Γ' := NewC Γ src) (w := w) (fun b hb => hb) (fun _ _ => rfl) h (by simp only [List.all_cons, List.all_nil, Bool.and_true, freeM]; exact hd)
  cases d with
  | ptr id i j =>
    show R1 _ w (match rid src id with | some k => D.ptr k i j | none => .any) v
    cases hk : rid src id with
    | some k =>
      obtain ⟨hA, rfl⟩ := R1.ptr.1 h
      obtain ⟨h1, h2, h3, h4⟩ := newC_at hk hA
      exact R1.ptr.2 ⟨h1, by unfold adr; rw [h2, h3]⟩
    | none => exact R1.any
  | ms id off len cap ex =>
    show R1 _ w (match rid src id with | some k => D.ms k off len cap ex | none => .any) v
    cases hk : rid src id with
    | some k =>
      obtain ⟨hA, b, c, rfl, k1, k2, k3, k4, k5, k6⟩ := R1.ms.1 h
      obtain ⟨h1, h2, h3, h4⟩ := newC_at hk hA
      exact R1.ms.2 ⟨h1, b, c, rfl, k1, k2, k3, by unfold adr at *; rw [h2, h3]; exact k4, by rw [h3, h4]; exact k5, k6⟩
    | none => exact R1.any
  | mp id => exact R1.any
  | fn => exact R1.any
  | agg => exact R1.any
  | tup => exact R1.any
  | any => exact R1.any
  | undef => exact R1.undef.2 (R1.undef.1 h)
  | junk => exact (R1.atom_iff (d := .junk) rfl).2 ((R1.atom_iff (Γ := Γ) (w := w) (d := .junk) rfl).1 h)
  | nsl b => exact (R1.atom_iff (d := .nsl b) rfl).2 (by have := (R1.atom_iff (Γ := Γ) (w := w) (d := .nsl b) rfl).1 h; cases b <;> exact this)
  | cpt x j =>
    obtain ⟨us, b, o, rfl, hp, he, hh, hC, ha⟩ := R1.cpt.1 h
    exact R1.cpt.2 ⟨us, b, o, rfl, hp, he, R.free (Γ := Γ) (Γ' := NewC Γ src) (w := w) (fun b hb => hb) (fun _ _ => rfl) hh (pure_cellsM hp), hC, ha⟩
  | _ => exact free _ rfl h
theorem R.renLeafs {src : List (Nat × Bool)} : ∀ {ds : List D} {vs : List Value}, R Γ w none ds vs → R (NewC Γ src) w none (ds.map (renLeaf src)) vs
  | [], vs, h => by rw [h.nil_inv]; exact .nil _
  | d :: ds, vs, h => by
    obtain ⟨v, vs', rfl, h1, h2⟩ := h.cons_inv
    exact R.cons h1.renLeaf h2.renLeafs
theorem R1.ren {src : List (Nat × Bool)} {d : D} {v : Value} (h : R1 Γ w d v) : R1 (NewC Γ src) w (ren src d) v := by
  unfold Dv.ren
  split
  · rename_i ds
    obtain ⟨us, rfl, h1, h2⟩ := R1.agg.1 h
    simp only
    split
    · rename_i hl; exact R1.agg.2 ⟨us, rfl, h1.renLeafs, hl⟩
    · exact R1.any
  · obtain ⟨us, ws, rfl, h1, h2⟩ := R1.fn.1 h
    exact R1.fn.2 ⟨us, ws, rfl, h1.renLeafs, h2.renLeafs⟩
  · exact h.renLeaf
theorem ren_leaf (src : List (Nat × Bool)) {y : D} (h : y.isAgg = false) (hf : ∀ f as bs, y ≠ .fn f as bs) : Dv.ren src y = Dv.renLeaf src y := by
  cases y <;> first | rfl | (cases h; done) | exact absurd rfl (hf _ _ _)
theorem ren_cells_R {src : List (Nat × Bool)} {x : D} {us : List Value} (hr : (ren src x).elem = true) (h : R Γ w none x.cells us) : R (NewC Γ src) w none (ren src x).cells us := by
  have key : ∀ y : D, y.isAgg = false → (∀ f as bs, y ≠ .fn f as bs) → R Γ w none y.cells us → R (NewC Γ src) w none (Dv.ren src y).cells us := by
    intro y hy hf h
    rw [cells_flat hy] at h
    obtain ⟨v, vs', rfl, h1, h2⟩ := R.cons_inv h
    rw [h2.nil_inv, ren_leaf src hy hf, cells_flat (renLeaf_flat _ _)]
    exact R1.renLeaf h1
  cases x with
  | agg ds =>
    unfold Dv.ren at *
    simp only at *
    split at hr
    · rename_i hh; rw [if_pos hh]; exact h.renLeafs
    · simp [D.elem, D.leaf] at hr
  | fn f as bs =>
    obtain ⟨v, vs', rfl, h1, h2⟩ := R.cons_inv h
    rw [h2.nil_inv]
    exact R1.ren (src := src) h1
  | _ => exact key _ rfl (by intro _ _ _ h; cases h) h
theorem R.renElems {src : List (Nat × Bool)} {sz : Nat} : ∀ {xs : List D} {us : List Value}, R Γ w (some sz) xs us → (xs.map (ren src)).all D.elem = true → (xs.map (ren src)).map (fun d => d.cells.length) = xs.map (fun d => d.cells.length) → R (NewC Γ src) w (some sz) (xs.map (ren src)) us
  | [], us, h, _, _ => by rw [h.nil_inv]; exact .nil _
  | x :: xs, us, h, h1, h2 => by
    cases h with
    | elem hx hh hl t =>
      simp only [List.map_cons, List.all_cons, Bool.and_eq_true, List.cons.injEq] at h1 h2
      exact .elem h1.1 (ren_cells_R h1.1 hh) hl (t.renElems h1.2 (by simpa using h2.2))
theorem R.pureElems {src : List (Nat × Bool)} {sz : Nat} {xs : List D} {us : List Value} (h : R Γ w (some sz) xs us) (hp : xs.all D.pure = true) : R (NewC Γ src) w (some sz) xs us := by
  refine R.free (Γ := Γ) (Γ' := NewC Γ src) (w := w) (fun b hb => hb) (fun _ _ => rfl) h ?_
  rw [List.all_eq_true] at hp ⊢
  intro x hx
  have := hp x hx
  simp only [freeM]
  exact this

theorem slotsWk_get {src : List (Nat × Bool)} : ∀ {l : List (Nat × D)}, slotsWk src e l → ∀ t, tb l t = .any ∨ tb l t = ren src (e t)
  | [], _, t => .inl rfl
  | [(s, v)], h, t => by
    unfold tb
    rw [List.lookup_cons]
    by_cases hts : t = s
    · subst hts
      right
      simp only [beq_self_eq_true]
      exact h
    · have : (t == s) = false := by simpa using hts
      rw [this]
      exact .inl rfl
  | (s, v) :: x :: l, h, t => by
    unfold tb
    rw [List.lookup_cons]
    by_cases hts : t = s
    · subst hts
      right
      simp only [beq_self_eq_true]
      exact h.1
    · have : (t == s) = false := by simpa using hts
      rw [this]
      exact slotsWk_get h.2 t
theorem rowsWk_cons {src : List (Nat × Bool)} {id : Nat} {p : Bool} {s : List (Nat × Bool)} {o : Option Ob} {σ' : Store} (h : rowsWk src σ ((id, p) :: s) (o :: σ')) : RowWk src p (σ.obj id) o ∧ rowsWk src σ s σ' := by
  cases s with
  | nil => cases σ' with
    | nil => exact ⟨h, trivial⟩
    | cons => exact h
  | cons => exact h
theorem rowsWk_get {src : List (Nat × Bool)} : ∀ {s : List (Nat × Bool)} {σ' : Store}, rowsWk src σ s σ' → σ'.length = s.length ∧ ∀ k o', σ'.obj k = some o' → ∃ id p, s[k]? = some (id, p) ∧ RowWk src p (σ.obj id) (some o')
  | [], [], _ => ⟨rfl, fun k o' h => by simp [Store.obj] at h⟩
  | (id, p) :: s, o :: σ', h => by
    have h := rowsWk_cons h
    obtain ⟨h1, h2⟩ := rowsWk_get h.2
    refine ⟨by simp [h1], fun k o' ho => ?_⟩
    cases k with
    | zero =>
      have ho' : o = some o' := by simpa [Store.obj] using ho
      exact ⟨id, p, rfl, ho' ▸ h.1⟩
    | succ k =>
      have := h2 k o' (by simpa [Store.obj] using ho)
      simpa using this
  | [], _ :: _, h => h.elim
  | (_, _) :: _, [], h => by cases ‹List (Nat × Bool)› <;> exact h.elim

theorem Wk.okC {n0 : Nat} {src : List (Nat × Bool)} {l : List (Nat × D)} (h : Wk n0 src e σ l σ') (hn : σ0.length = n0) (hr : Reach Γ0 σ0 w0 Γ σ w) (hsl : Slots Γ w e a) (hs : SR Γ σ w) (h00 : ∀ id, Γ0.A id → id < n0) :
    ∃ Γ', Γ'.C = Γ.C ∧ Reach Γ0 σ0 w0 Γ' σ' w ∧ Slots Γ' w (tb l) a ∧ SR Γ' σ' w := by
  obtain ⟨hb, hslots, hrows⟩ := h.out
  unfold baseWk at hb
  rw [Bool.and_eq_true, List.all_eq_true, decide_eq_true_eq] at hb
  obtain ⟨hb1, hb2⟩ := hb
  obtain ⟨hlen, hget⟩ := rowsWk_get hrows
  have hbase : ∀ i, i < n0 → (src.map (·.1))[i]? = some i := fun i hi => by simpa using hb1 i (List.mem_range.2 hi)
  have hfst : ∀ k id p, src[k]? = some (id, p) → (src.map (·.1))[k]? = some id := fun k id p h => by rw [List.getElem?_map, h]; rfl
  have hgd : ∀ k id, (src.map (·.1))[k]? = some id → (src.map (·.1)).getD k 0 = id := fun k id h => by rw [List.getD_eq_getElem?_getD, h]; rfl
  have hrow : ∀ k st esz xs, σ'.obj k = some (.row st esz xs) → ∃ id ys, (src.map (·.1))[k]? = some id ∧ σ.obj id = some (.row st esz ys) ∧ RowR (NewC Γ src) w k esz xs := by
    intro k st esz xs ho
    obtain ⟨id, p, hk, hw⟩ := hget k _ ho
    have hk' := hfst _ _ _ hk
    have fin : ∀ ys, σ.obj id = some (.row st esz ys) → (∀ us, R Γ w (some esz) ys us → R (NewC Γ src) w (some esz) xs us) → RowR (NewC Γ src) w k esz xs := by
      intro ys ho' hrr
      obtain ⟨⟨k1, k2, c, ee, us, rest, k3, k4, k5, k6⟩, _⟩ := hs.row _ _ _ _ ho'
      refine ⟨by simp only [NewC, hgd _ _ hk']; exact k1, k2, c, ee, us, rest, by simp only [NewC, hgd _ _ hk']; exact k3, by simp only [NewC, hgd _ _ hk']; exact k4, k5, ⟨hrr _ k6.r, k6.one⟩⟩
    unfold RowWk at hw
    cases p with
    | true =>
      simp only at hw
      rcases hw with hw | ⟨hw, hp⟩
      · cases hw
      · rw [← hw] at hp
        simp only at hp
        exact ⟨id, xs, hk', hw.symm, fin xs hw.symm fun us h => h.pureElems hp⟩
    | false =>
      simp only at hw
      split at hw
      · rename_i st' e' ys ho'
        obtain ⟨hw, hel⟩ := hw
        injection hw with hw
        injection hw with h1 h2 h3
        subst h1 h2 h3
        rw [Bool.and_eq_true, decide_eq_true_eq] at hel
        exact ⟨id, ys, hk', ho', fin ys ho' fun us h => h.renElems hel.1 hel.2⟩
      · cases hw
  have hagree : Agree Γ0 (NewC Γ src) := by
    have hag := hr.tr.agree
    refine ⟨fun b hb => hag.C b hb, fun id hid => ⟨id, hbase id (h00 id hid), hag.A id hid⟩, fun id hid => ?_, fun id hid => ?_, fun id hid => ?_⟩
    · simp only [NewC, hgd _ _ (hbase id (h00 id hid))]; exact hag.ρ id hid
    · simp only [NewC, hgd _ _ (hbase id (h00 id hid))]; exact hag.ez id hid
    · simp only [NewC, hgd _ _ (hbase id (h00 id hid))]; exact hag.bs id hid
  have hown : ∀ b, Own (NewC Γ src) σ' b → Own Γ σ b := by
    rintro b ⟨k, ez, xs, ho, hb⟩
    obtain ⟨id, ys, h1, h2, _⟩ := hrow _ _ _ _ ho
    exact ⟨id, ez, ys, h2, by rw [← hb]; simp only [NewC, hgd _ _ h1]⟩
  have hsome : ∀ k o, σ'.obj k = some o → ∃ st esz xs, o = .row st esz xs := by
    intro k o ho
    obtain ⟨id, p, hk, hw⟩ := hget k _ ho
    unfold RowWk at hw
    cases p with
    | true =>
      simp only at hw
      rcases hw with hw | ⟨hw, hp⟩
      · cases hw
      · rw [← hw] at hp
        cases o with
        | row st e xs => exact ⟨st, e, xs, rfl⟩
        | map => exact hp.elim
    | false =>
      simp only at hw
      split at hw
      · injection hw.1 with h; exact ⟨_, _, _, h⟩
      · cases hw
  refine ⟨NewC Γ src, rfl, ⟨⟨hagree, fun b hb => hr.tr.cnew b hb, fun b hb => hr.tr.own b (hown b hb), hr.tr.kept, hr.tr.os, hr.tr.tape, hr.tr.output, hr.tr.size⟩, ?_, ?_⟩, ?_, ?_⟩
  · rw [hlen]
    rcases Nat.lt_or_ge src.length n0 with h | h
    · exfalso
      have := hbase src.length h
      rw [List.getElem?_eq_none (by simp)] at this
      cases this
    · omega
  · rintro k ⟨id, hk, hA⟩
    rcases Nat.lt_or_ge k n0 with h | h
    · have := hbase k h
      rw [hk] at this
      injection this with this
      subst this
      rcases hr.anew _ hA with h1 | h1
      · exact .inl h1
      · omega
    · exact .inr (by omega)
  · intro t
    rcases slotsWk_get hslots t with h | h
    · rw [h]; exact R1.any
    · rw [h]; exact (hsl t).ren
  · refine ⟨fun k st esz xs ho => ?_, fun k st kvs ho => ?_, fun k k' o o' h1 h2 hρ => ?_, fun k o ho => ?_, fun b hb => hs.old b hb, ?_⟩
    · obtain ⟨id, ys, h1, h2, h3⟩ := hrow _ _ _ _ ho
      obtain ⟨_, k1, k2⟩ := hs.row _ _ _ _ h2
      refine ⟨h3, ?_, ?_⟩
      · intro hst; simp only [NewC, hgd _ _ h1]; exact k1 hst
      · intro hst; simp only [NewC, hgd _ _ h1]; exact k2 hst
    · obtain ⟨st', e', xs, h⟩ := hsome _ _ ho
      cases h
    · obtain ⟨st1, e1, x1, rfl⟩ := hsome _ _ h1
      obtain ⟨st2, e2, x2, rfl⟩ := hsome _ _ h2
      obtain ⟨id1, y1, k1, k2, _⟩ := hrow _ _ _ _ h1
      obtain ⟨id2, y2, k3, k4, _⟩ := hrow _ _ _ _ h2
      simp only [NewC, hgd _ _ k1, hgd _ _ k3] at hρ
      have := hs.inj _ _ _ _ k2 k4 hρ
      subst this
      obtain ⟨l1, e1⟩ := List.getElem?_eq_some_iff.1 k1
      obtain ⟨l2, e2⟩ := List.getElem?_eq_some_iff.1 k3
      exact (List.getElem_inj (h₀ := l1) (h₁ := l2) hb2).1 (e1.trans e2.symm)
    · obtain ⟨st, ez, xs, rfl⟩ := hsome _ _ ho
      obtain ⟨id, ys, h1, h2, _⟩ := hrow _ _ _ _ ho
      exact ⟨id, h1, hs.live _ _ h2⟩
    · rintro k ⟨id, hk, _⟩
      have := (List.getElem?_eq_some_iff.1 hk).1
      rw [hlen]
      simpa using this

theorem Wk.ok {n0 : Nat} {src : List (Nat × Bool)} {l : List (Nat × D)} (h : Wk n0 src e σ l σ') (hn : σ0.length = n0) (hr : Reach Γ0 σ0 w0 Γ σ w) (hsl : Slots Γ w e a) (hs : SR Γ σ w) (h00 : ∀ id, Γ0.A id → id < n0) :
    ∃ Γ', Reach Γ0 σ0 w0 Γ' σ' w ∧ Slots Γ' w (tb l) a ∧ SR Γ' σ' w := by
  obtain ⟨Γ', _, h⟩ := h.okC hn hr hsl hs h00
  exact ⟨Γ', h⟩

/-! ### triples -/
abbrev PostE := Ex → Env → Store → Prop
def Tri (P : Program) (n0 N : Nat) (c : Code) (e : Env) (σ : Store) (Q : PostE) : Prop :=
  ∀ (Γ0 : Ctx) (σ0 : Store) (w0 : World) (Γ : Ctx) (w : World) (a : Act) (K : Exit → Act → World → Prop), σ0.length = n0 → (∀ id, Γ0.A id → id < n0) → Reach Γ0 σ0 w0 Γ σ w → Slots Γ w e a → SR Γ σ w → a.tmps.size = N →
    (∀ ex e' σ' a' w', Q ex e' σ' → CodeEnd N Γ0 σ0 w0 e' σ' a.defers a' w' → K (exOf ex) a' w') → c.wp P K a w
theorem Tri.mono {n0 N : Nat} {c : Code} {Q Q' : PostE} (h : Tri P n0 N c e σ Q) (hq : ∀ ex e σ, Q ex e σ → Q' ex e σ) : Tri P n0 N c e σ Q' :=
  fun Γ0 σ0 w0 Γ w a K h1 h2 h3 h4 h5 h6 h7 => h Γ0 σ0 w0 Γ w a K h1 h2 h3 h4 h5 h6 fun ex e' σ' a' w' hQ hc => h7 ex e' σ' a' w' (hq _ _ _ hQ) hc
theorem Tri.weak {n0 N : Nat} {c : Code} {Q : PostE} {src : List (Nat × Bool)} {l : List (Nat × D)} (hw : Wk n0 src e σ l σ') (h : Tri P n0 N c (tb l) σ' Q) : Tri P n0 N c e σ Q := by
  intro Γ0 σ0 w0 Γ w a K h1 h2 h3 h4 h5 h6 h7
  obtain ⟨Γ', k1, k2, k3⟩ := hw.ok h1 h3 h4 h5 h2
  exact h Γ0 σ0 w0 Γ' w a K h1 h2 k1 k2 k3 h6 h7
/-- A loop, by what lessens. -/
theorem Tri.loop {n0 N : Nat} {c : Code} {S : Type} (T : S → List (Nat × D)) (Sg : S → Store) (μ : S → Nat) (Q : S → PostE)
    (body : ∀ s, Tri P n0 N c (tb (T s)) (Sg s) fun ex e σ => match ex with
      | .normal => ∃ s', μ s' < μ s ∧ (∀ ex e σ, Q s' ex e σ → Q s ex e σ) ∧ ∃ src, Wk n0 src e σ (T s') (Sg s')
      | ex => Q s ex e σ) (s0 : S) : Tri P n0 N (.loop c) (tb (T s0)) (Sg s0) (Q s0) := by
  intro Γ0 σ0 w0 Γ w a K h1 h2 h3 h4 h5 h6 h7
  refine wp_loop_ghost (fun k a1 w1 => ∃ s Γ1, μ s = k ∧ (∀ ex e σ, Q s ex e σ → Q s0 ex e σ) ∧ Reach Γ0 σ0 w0 Γ1 (Sg s) w1 ∧ Slots Γ1 w1 (tb (T s)) a1 ∧ SR Γ1 (Sg s) w1 ∧ a1.tmps.size = N ∧ a1.defers = a.defers) (μ s0) ⟨s0, Γ, rfl, fun _ _ _ h => h, h3, h4, h5, h6, rfl⟩ ?_
  rintro k a1 w1 ⟨s, Γ1, rfl, k2, k3, k4, k5, k6, k7⟩
  refine body s Γ0 σ0 w0 Γ1 w1 a1 _ h1 h2 k3 k4 k5 k6 ?_
  intro ex e' σ' a' w' hQ hc
  rw [k7] at hc
  cases ex with
  | normal =>
    obtain ⟨s', hlt, hqq, src, hw⟩ := hQ
    obtain ⟨Γ2, l1, l2, l3, l4, l5⟩ := hc
    obtain ⟨Γ3, m1, m2, m3⟩ := hw.ok h1 l3 l1 l2 h2
    exact ⟨μ s', hlt, s', Γ3, rfl, fun ex e σ h => k2 _ _ _ (hqq _ _ _ h), m1, m2, m3, l4, l5⟩
  | exit id => exact h7 _ _ _ _ _ (k2 _ _ _ hQ) hc
  | ret => exact h7 _ _ _ _ _ (k2 _ _ _ hQ) hc
end Go.Proofs.Ytgibpomhiilehaa.Dv
