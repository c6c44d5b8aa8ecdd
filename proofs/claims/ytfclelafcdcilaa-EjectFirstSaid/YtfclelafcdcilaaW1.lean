/- What must hold for a piece of code to come to its end so: computed from the code alone. -/
import Derived.Test.YtfclelafcdcilaaDvB
/- Triples over the evaluator's states at the machine: new names for objects, what is forgotten, loops. -/
set_option linter.unusedVariables false
set_option linter.unusedSimpArgs false
namespace Go.Proofs.Ytfclelafcdcilaa.Dv
open Go

/-! ### new names -/
def rid (src : List (Nat × Bool)) (id : Nat) : Option Nat := (src.map (·.1)).idxOf? id
def renLeaf (src : List (Nat × Bool)) : D → D
  | .ptr id i j => match rid src id with | some k => .ptr k i j | none => .any
  | .ms id off len cap ex => match rid src id with | some k => .ms k off len cap ex | none => .any
  | .mp _ | .fn .. | .agg _ | .tup _ => .any
  | d => d
def ren (src : List (Nat × Bool)) : D → D
  | .agg ds => let es := ds.map (renLeaf src); if es.all D.leaf then .agg es else .any
  | .fn f as bs => .fn f (as.map (renLeaf src)) (bs.map (renLeaf src))
  | d => renLeaf src d
def tb (l : List (Nat × D)) : Env := fun i => (l.lookup i).getD .any
/-- A row, of data alone or of one's names. -/
def RowWk (src : List (Nat × Bool)) (p : Bool) (o o' : Option Ob) : Prop :=
  match p with
  | true => o' = none ∨ (o' = o ∧ match o with | some (.row _ _ xs) => xs.all D.pure = true | _ => False)
  | false => match o with
    | some (.row st e xs) => o' = some (.row st e (xs.map (ren src))) ∧ ((xs.map (ren src)).all D.elem && decide ((xs.map (ren src)).map (fun d => d.cells.length) = xs.map (fun d => d.cells.length))) = true
    | _ => o' = none
def rowsWk (src : List (Nat × Bool)) (σ : Store) : List (Nat × Bool) → Store → Prop
  | [], [] => True
  | [(id, p)], [o'] => RowWk src p (σ.obj id) o'
  | (id, p) :: s, o' :: σ' => RowWk src p (σ.obj id) o' ∧ rowsWk src σ s σ'
  | _, _ => False
def slotsWk (src : List (Nat × Bool)) (e : Env) : List (Nat × D) → Prop
  | [] => True
  | [(t, v)] => v = ren src (e t)
  | (t, v) :: x :: l => v = ren src (e t) ∧ slotsWk src e (x :: l)
def onB (b : Bool) (p : Prop) : Prop := match b with | true => p | false => False
theorem onB_ok {b : Bool} {p : Prop} (h : onB b p) : b = true ∧ p := by
  unfold onB at h
  split at h
  · exact ⟨rfl, h⟩
  · exact h.elim
def baseWk (n0 : Nat) (src : List (Nat × Bool)) : Bool := ((List.range n0).all fun i => (src.map (·.1))[i]? == some i) && decide (src.map (·.1)).Nodup
/-- From one state of the evaluator to one that says less, with new names. -/
def Wk (n0 : Nat) (src : List (Nat × Bool)) (e : Env) (σ : Store) (l : List (Nat × D)) (σ' : Store) : Prop :=
  onB (baseWk n0 src) (match src, σ' with
    | [], [] => slotsWk [] e l
    | src, σ' => slotsWk src e l ∧ rowsWk src σ src σ')
theorem Wk.out {n0 : Nat} {src : List (Nat × Bool)} {e : Env} {σ : Store} {l : List (Nat × D)} {σ' : Store} (h : Wk n0 src e σ l σ') : baseWk n0 src = true ∧ slotsWk src e l ∧ rowsWk src σ src σ' := by
  unfold Wk at h
  obtain ⟨h1, h2⟩ := onB_ok h
  split at h2
  · exact ⟨h1, h2, trivial⟩
  · exact ⟨h1, h2⟩

variable {P : Program} {M : Modes} {Γ Γ' Γ0 : Ctx} {w w' w0 : World} {σ σ' σ0 : Store} {e : Env} {a : Act}

def NewC (Γ : Ctx) (src : List (Nat × Bool)) : Ctx :=
  { C := Γ.C, A := fun k => ∃ id, (src.map (·.1))[k]? = some id ∧ Γ.A id
    ρ := fun k => Γ.ρ ((src.map (·.1)).getD k 0), ez := fun k => Γ.ez ((src.map (·.1)).getD k 0), bs := fun k => Γ.bs ((src.map (·.1)).getD k 0) }
theorem rid_get {src : List (Nat × Bool)} {id k : Nat} (h : rid src id = some k) : (src.map (·.1))[k]? = some id := by
  unfold rid at h
  generalize src.map (·.1) = l at *
  rw [List.idxOf?_eq_some_iff] at h
  obtain ⟨h1, h2, _⟩ := h
  rw [List.getElem?_eq_getElem h1]
  simpa using h2
theorem newC_at {src : List (Nat × Bool)} {id k : Nat} (h : rid src id = some k) (hA : Γ.A id) : (NewC Γ src).A k ∧ (NewC Γ src).ρ k = Γ.ρ id ∧ (NewC Γ src).ez k = Γ.ez id ∧ (NewC Γ src).bs k = Γ.bs id := by
  have := rid_get h
  have hd : (src.map (·.1)).getD k 0 = id := by rw [List.getD_eq_getElem?_getD, this]; rfl
  exact ⟨⟨id, this, hA⟩, by simp only [NewC, hd], by simp only [NewC, hd], by simp only [NewC, hd]⟩
theorem pure_cellsM {x : D} (h : x.pure = true) : x.cells.all (freeM none) = true := by
  rw [List.all_eq_true]
  intro y hy
  cases x with
  | agg ds =>
    simp only [D.cells] at hy
    simp only [D.pure, List.all_eq_true] at h
    have := h y hy
    simp only [freeM]
    exact pure_free (pleaf_pure this)
  | _ =>
    simp only [D.cells, List.mem_singleton] at hy
    subst hy
    simp only [freeM]
    exact pure_free h
theorem renLeaf_flat (src : List (Nat × Bool)) (d : D) : (renLeaf src d).isAgg = false := by
  cases d with
  | ptr id i j => show D.isAgg (match rid src id with | some k => D.ptr k i j | none => .any) = false; cases rid src id <;> rfl
  | ms id off len cap ex => show D.isAgg (match rid src id with | some k => D.ms k off len cap ex | none => .any) = false; cases rid src id <;> rfl
  | _ => rfl
theorem cells_flat {d : D} (h : d.isAgg = false) : d.cells = [d] := by cases d <;> first | rfl | (cases h)
theorem R1.renLeaf {src : List (Nat × Bool)} {d : D} {v : Value} (h : R1 Γ w d v) : R1 (NewC Γ src) w (renLeaf src d) v := by
  have free : ∀ d, d.free = true → R1 Γ w d v → R1 (NewC Γ src) w d v := fun d hd h => R.free (Γ := Γ) (Γ' := NewC Γ src) (w := w) (fun b hb => hb) (fun _ _ => rfl) h (by simp only [List.all_cons, List.all_nil, Bool.and_true, freeM]; exact hd)
  cases d with
  | ptr id i j =>
    show R1 _ w (match rid src id with | some k => D.ptr k i j | none => .any) v
    cases hk : rid src id with
    | some k =>
      obtain ⟨hA, rfl⟩ := R1.ptr.1 h
      obtain ⟨h1, h2, h3, h4⟩ := newC_at hk hA
      exact R1.ptr.2 ⟨h1, by unfold adr; rw [h2, h3]⟩
    | none => exact R1.any
  | ms id off len cap ex =>
    show R1 _ w (match rid src id with | some k => D.ms k off len cap ex | none => .any) v
    cases hk : rid src id with
    | some k =>
      obtain ⟨hA, b, c, rfl, k1, k2, k3, k4, k5, k6⟩ := R1.ms.1 h
      obtain ⟨h1, h2, h3, h4⟩ := newC_at hk hA
      exact R1.ms.2 ⟨h1, b, c, rfl, k1, k2, k3, by unfold adr at *; rw [h2, h3]; exact k4, by rw [h3, h4]; exact k5, k6⟩
    | none => exact R1.any
  | mp id => exact R1.any
  | fn => exact R1.any
  | agg => exact R1.any
  | tup => exact R1.any
  | any => exact R1.any
  | undef => exact R1.undef.2 (R1.undef.1 h)
  | junk => exact (R1.atom_iff (d := .junk) rfl).2 ((R1.atom_iff (Γ := Γ) (w := w) (d := .junk) rfl).1 h)
  | nsl b => exact (R1.atom_iff (d := .nsl b) rfl).2 (by have := (R1.atom_iff (Γ := Γ) (w := w) (d := .nsl b) rfl).1 h; cases b <;> exact this)
  | cpt x j =>
    obtain ⟨us, b, o, rfl, hp, he, hh, hC, ha⟩ := R1.cpt.1 h
    exact R1.cpt.2 ⟨us, b, o, rfl, hp, he, R.free (Γ := Γ) (Γ' := NewC Γ src) (w := w) (fun b hb => hb) (fun _ _ => rfl) hh (pure_cellsM hp), hC, ha⟩
  | _ => exact free _ rfl h
theorem R.renLeafs {src : List (Nat × Bool)} : ∀ {ds : List D} {vs : List Value}, R Γ w none ds vs → R (NewC Γ src) w none (ds.map (renLeaf src)) vs
  | [], vs, h => by rw [h.nil_inv]; exact .nil _
  | d :: ds, vs, h => by
    obtain ⟨v, vs', rfl, h1, h2⟩ := h.cons_inv
    exact R.cons h1.renLeaf h2.renLeafs
theorem R1.ren {src : List (Nat × Bool)} {d : D} {v : Value} (h : R1 Γ w d v) : R1 (NewC Γ src) w (ren src d) v := by
  unfold Dv.ren
  split
  · rename_i ds
    obtain ⟨us, rfl, h1, h2⟩ := R1.agg.1 h
    simp only
    split
    · rename_i hl; exact R1.agg.2 ⟨us, rfl, h1.renLeafs, hl⟩
    · exact R1.any
  · obtain ⟨us, ws, rfl, h1, h2⟩ := R1.fn.1 h
    exact R1.fn.2 ⟨us, ws, rfl, h1.renLeafs, h2.renLeafs⟩
  · exact h.renLeaf
theorem ren_leaf (src : List (Nat × Bool)) {y : D} (h : y.isAgg = false) (hf : ∀ f as bs, y ≠ .fn f as bs) : Dv.ren src y = Dv.renLeaf src y := by
  cases y <;> first | rfl | (cases h; done) | exact absurd rfl (hf _ _ _)
theorem ren_cells_R {src : List (Nat × Bool)} {x : D} {us : List Value} (hr : (ren src x).elem = true) (h : R Γ w none x.cells us) : R (NewC Γ src) w none (ren src x).cells us := by
  have key : ∀ y : D, y.isAgg = false → (∀ f as bs, y ≠ .fn f as bs) → R Γ w none y.cells us → R (NewC Γ src) w none (Dv.ren src y).cells us := by
    intro y hy hf h
    rw [cells_flat hy] at h
    obtain ⟨v, vs', rfl, h1, h2⟩ := R.cons_inv h
    rw [h2.nil_inv, ren_leaf src hy hf, cells_flat (renLeaf_flat _ _)]
    exact R1.renLeaf h1
  cases x with
  | agg ds =>
    unfold Dv.ren at *
    simp only at *
    split at hr
    · rename_i hh; rw [if_pos hh]; exact h.renLeafs
    · simp [D.elem, D.leaf] at hr
  | fn f as bs =>
    obtain ⟨v, vs', rfl, h1, h2⟩ := R.cons_inv h
    rw [h2.nil_inv]
    exact R1.ren (src := src) h1
  | _ => exact key _ rfl (by intro _ _ _ h; cases h) h
theorem R.renElems {src : List (Nat × Bool)} {sz : Nat} : ∀ {xs : List D} {us : List Value}, R Γ w (some sz) xs us → (xs.map (ren src)).all D.elem = true → (xs.map (ren src)).map (fun d => d.cells.length) = xs.map (fun d => d.cells.length) → R (NewC Γ src) w (some sz) (xs.map (ren src)) us
  | [], us, h, _, _ => by rw [h.nil_inv]; exact .nil _
  | x :: xs, us, h, h1, h2 => by
    cases h with
    | elem hx hh hl t =>
      simp only [List.map_cons, List.all_cons, Bool.and_eq_true, List.cons.injEq] at h1 h2
      exact .elem h1.1 (ren_cells_R h1.1 hh) hl (t.renElems h1.2 (by simpa using h2.2))
theorem R.pureElems {src : List (Nat × Bool)} {sz : Nat} {xs : List D} {us : List Value} (h : R Γ w (some sz) xs us) (hp : xs.all D.pure = true) : R (NewC Γ src) w (some sz) xs us := by
  refine R.free (Γ := Γ) (Γ' := NewC Γ src) (w := w) (fun b hb => hb) (fun _ _ => rfl) h ?_
  rw [List.all_eq_true] at hp ⊢
  intro x hx
  have := hp x hx
  simp only [freeM]
  exact this

theorem slotsWk_get {src : List (Nat × Bool)} : ∀ {l : List (Nat × D)}, slotsWk src e l → ∀ t, tb l t = .any ∨ tb l t = ren src (e t)
  | [], _, t => .inl rfl
  | [(s, v)], h, t => by
    unfold tb
    rw [List.lookup_cons]
    by_cases hts : t = s
    · subst hts
      right
      simp only [beq_self_eq_true]
      exact h
    · have : (t == s) = false := by simpa using hts
      rw [this]
      exact .inl rfl
  | (s, v) :: x :: l, h, t => by
    unfold tb
    rw [List.lookup_cons]
    by_cases hts : t = s
    · subst hts
      right
      simp only [beq_self_eq_true]
      exact h.1
    · have : (t == s) = false := by simpa using hts
      rw [this]
      exact slotsWk_get h.2 t
theorem rowsWk_cons {src : List (Nat × Bool)} {id : Nat} {p : Bool} {s : List (Nat × Bool)} {o : Option Ob} {σ' : Store} (h : rowsWk src σ ((id, p) :: s) (o :: σ')) : RowWk src p (σ.obj id) o ∧ rowsWk src σ s σ' := by
  cases s with
  | nil => cases σ' with
    | nil => exact ⟨h, trivial⟩
    | cons => exact h
  | cons => exact h
theorem rowsWk_get {src : List (Nat × Bool)} : ∀ {s : List (Nat × Bool)} {σ' : Store}, rowsWk src σ s σ' → σ'.length = s.length ∧ ∀ k o', σ'.obj k = some o' → ∃ id p, s[k]? = some (id, p) ∧ RowWk src p (σ.obj id) (some o')
  | [], [], _ => ⟨rfl, fun k o' h => by simp [Store.obj] at h⟩
  | (id, p) :: s, o :: σ', h => by
    have h := rowsWk_cons h
    obtain ⟨h1, h2⟩ := rowsWk_get h.2
    refine ⟨by simp [h1], fun k o' ho => ?_⟩
    cases k with
    | zero =>
      have ho' : o = some o' := by simpa [Store.obj] using ho
      exact ⟨id, p, rfl, ho' ▸ h.1⟩
    | succ k =>
      have := h2 k o' (by simpa [Store.obj] using ho)
      simpa using this
  | [], _ :: _, h => h.elim
  | (_, _) :: _, [], h => by cases ‹List (Nat × Bool)› <;> exact h.elim

theorem Wk.okC {n0 : Nat} {src : List (Nat × Bool)} {l : List (Nat × D)} (h : Wk n0 src e σ l σ') (hn : σ0.length = n0) (hr : Reach Γ0 σ0 w0 Γ σ w) (hsl : Slots Γ w e a) (hs : SR Γ σ w) (h00 : ∀ id, Γ0.A id → id < n0) :
    ∃ Γ', Γ'.C = Γ.C ∧ Reach Γ0 σ0 w0 Γ' σ' w ∧ Slots Γ' w (tb l) a ∧ SR Γ' σ' w := by
  obtain ⟨hb, hslots, hrows⟩ := h.out
  unfold baseWk at hb
  rw [Bool.and_eq_true, List.all_eq_true, decide_eq_true_eq] at hb
  obtain ⟨hb1, hb2⟩ := hb
  obtain ⟨hlen, hget⟩ := rowsWk_get hrows
  have hbase : ∀ i, i < n0 → (src.map (·.1))[i]? = some i := fun i hi => by simpa using hb1 i (List.mem_range.2 hi)
  have hfst : ∀ k id p, src[k]? = some (id, p) → (src.map (·.1))[k]? = some id := fun k id p h => by rw [List.getElem?_map, h]; rfl
  have hgd : ∀ k id, (src.map (·.1))[k]? = some id → (src.map (·.1)).getD k 0 = id := fun k id h => by rw [List.getD_eq_getElem?_getD, h]; rfl
  have hrow : ∀ k st esz xs, σ'.obj k = some (.row st esz xs) → ∃ id ys, (src.map (·.1))[k]? = some id ∧ σ.obj id = some (.row st esz ys) ∧ RowR (NewC Γ src) w k esz xs := by
    intro k st esz xs ho
    obtain ⟨id, p, hk, hw⟩ := hget k _ ho
    have hk' := hfst _ _ _ hk
    have fin : ∀ ys, σ.obj id = some (.row st esz ys) → (∀ us, R Γ w (some esz) ys us → R (NewC Γ src) w (some esz) xs us) → RowR (NewC Γ src) w k esz xs := by
      intro ys ho' hrr
      obtain ⟨⟨k1, k2, c, ee, us, rest, k3, k4, k5, k6⟩, _⟩ := hs.row _ _ _ _ ho'
      refine ⟨by simp only [NewC, hgd _ _ hk']; exact k1, k2, c, ee, us, rest, by simp only [NewC, hgd _ _ hk']; exact k3, by simp only [NewC, hgd _ _ hk']; exact k4, k5, ⟨hrr _ k6.r, k6.one⟩⟩
    unfold RowWk at hw
    cases p with
    | true =>
      simp only at hw
      rcases hw with hw | ⟨hw, hp⟩
      · cases hw
      · rw [← hw] at hp
        simp only at hp
        exact ⟨id, xs, hk', hw.symm, fin xs hw.symm fun us h => h.pureElems hp⟩
    | false =>
      simp only at hw
      split at hw
      · rename_i st' e' ys ho'
        obtain ⟨hw, hel⟩ := hw
        injection hw with hw
        injection hw with h1 h2 h3
        subst h1 h2 h3
        rw [Bool.and_eq_true, decide_eq_true_eq] at hel
        exact ⟨id, ys, hk', ho', fin ys ho' fun us h => h.renElems hel.1 hel.2⟩
      · cases hw
  have hagree : Agree Γ0 (NewC Γ src) := by
    have hag := hr.tr.agree
    refine ⟨fun b hb => hag.C b hb, fun id hid => ⟨id, hbase id (h00 id hid), hag.A id hid⟩, fun id hid => ?_, fun id hid => ?_, fun id hid => ?_⟩
    · simp only [NewC, hgd _ _ (hbase id (h00 id hid))]; exact hag.ρ id hid
    · simp only [NewC, hgd _ _ (hbase id (h00 id hid))]; exact hag.ez id hid
    · simp only [NewC, hgd _ _ (hbase id (h00 id hid))]; exact hag.bs id hid
  have hown : ∀ b, Own (NewC Γ src) σ' b → Own Γ σ b := by
    rintro b ⟨k, ez, xs, ho, hb⟩
    obtain ⟨id, ys, h1, h2, _⟩ := hrow _ _ _ _ ho
    exact ⟨id, ez, ys, h2, by rw [← hb]; simp only [NewC, hgd _ _ h1]⟩
  have hsome : ∀ k o, σ'.obj k = some o → ∃ st esz xs, o = .row st esz xs := by
    intro k o ho
    obtain ⟨id, p, hk, hw⟩ := hget k _ ho
    unfold RowWk at hw
    cases p with
    | true =>
      simp only at hw
      rcases hw with hw | ⟨hw, hp⟩
      · cases hw
      · rw [← hw] at hp
        cases o with
        | row st e xs => exact ⟨st, e, xs, rfl⟩
        | map => exact hp.elim
    | false =>
      simp only at hw
      split at hw
      · injection hw.1 with h; exact ⟨_, _, _, h⟩
      · cases hw
  refine ⟨NewC Γ src, rfl, ⟨⟨hagree, fun b hb => hr.tr.cnew b hb, fun b hb => hr.tr.own b (hown b hb), hr.tr.kept, hr.tr.os, hr.tr.tape, hr.tr.output, hr.tr.size, hr.tr.drawn⟩, ?_, ?_⟩, ?_, ?_⟩
  · rw [hlen]
    rcases Nat.lt_or_ge src.length n0 with h | h
    · exfalso
      have := hbase src.length h
      rw [List.getElem?_eq_none (by simp)] at this
      cases this
    · omega
  · rintro k ⟨id, hk, hA⟩
    rcases Nat.lt_or_ge k n0 with h | h
    · have := hbase k h
      rw [hk] at this
      injection this with this
      subst this
      rcases hr.anew _ hA with h1 | h1
      · exact .inl h1
      · omega
    · exact .inr (by omega)
  · intro t
    rcases slotsWk_get hslots t with h | h
    · rw [h]; exact R1.any
    · rw [h]; exact (hsl t).ren
  · refine ⟨fun k st esz xs ho => ?_, fun k st kvs ho => ?_, fun k k' o o' h1 h2 hρ => ?_, fun k o ho => ?_, fun b hb => hs.old b hb, ?_⟩
    · obtain ⟨id, ys, h1, h2, h3⟩ := hrow _ _ _ _ ho
      obtain ⟨_, k1, k2⟩ := hs.row _ _ _ _ h2
      refine ⟨h3, ?_, ?_⟩
      · intro hst; simp only [NewC, hgd _ _ h1]; exact k1 hst
      · intro hst; simp only [NewC, hgd _ _ h1]; exact k2 hst
    · obtain ⟨st', e', xs, h⟩ := hsome _ _ ho
      cases h
    · obtain ⟨st1, e1, x1, rfl⟩ := hsome _ _ h1
      obtain ⟨st2, e2, x2, rfl⟩ := hsome _ _ h2
      obtain ⟨id1, y1, k1, k2, _⟩ := hrow _ _ _ _ h1
      obtain ⟨id2, y2, k3, k4, _⟩ := hrow _ _ _ _ h2
      simp only [NewC, hgd _ _ k1, hgd _ _ k3] at hρ
      have := hs.inj _ _ _ _ k2 k4 hρ
      subst this
      obtain ⟨l1, e1⟩ := List.getElem?_eq_some_iff.1 k1
      obtain ⟨l2, e2⟩ := List.getElem?_eq_some_iff.1 k3
      exact (List.getElem_inj (h₀ := l1) (h₁ := l2) hb2).1 (e1.trans e2.symm)
    · obtain ⟨st, ez, xs, rfl⟩ := hsome _ _ ho
      obtain ⟨id, ys, h1, h2, _⟩ := hrow _ _ _ _ ho
      exact ⟨id, h1, hs.live _ _ h2⟩
    · rintro k ⟨id, hk, _⟩
      have := (List.getElem?_eq_some_iff.1 hk).1
      rw [hlen]
      simpa using this

theorem Wk.ok {n0 : Nat} {src : List (Nat × Bool)} {l : List (Nat × D)} (h : Wk n0 src e σ l σ') (hn : σ0.length = n0) (hr : Reach Γ0 σ0 w0 Γ σ w) (hsl : Slots Γ w e a) (hs : SR Γ σ w) (h00 : ∀ id, Γ0.A id → id < n0) :
    ∃ Γ', Reach Γ0 σ0 w0 Γ' σ' w ∧ Slots Γ' w (tb l) a ∧ SR Γ' σ' w := by
  obtain ⟨Γ', _, h⟩ := h.okC hn hr hsl hs h00
  exact ⟨Γ', h⟩

/-! ### triples -/
abbrev PostE := Ex → Env → Store → Prop
def Tri (P : Program) (n0 N : Nat) (c : Code) (e : Env) (σ : Store) (Q : PostE) : Prop :=
  ∀ (Γ0 : Ctx) (σ0 : Store) (w0 : World) (Γ : Ctx) (w : World) (a : Act) (K : Exit → Act → World → Prop), σ0.length = n0 → (∀ id, Γ0.A id → id < n0) → Reach Γ0 σ0 w0 Γ σ w → Slots Γ w e a → SR Γ σ w → a.tmps.size = N →
    (∀ ex e' σ' a' w', Q ex e' σ' → CodeEnd N Γ0 σ0 w0 e' σ' a.defers a' w' → K (exOf ex) a' w') → c.wp P K a w
theorem Tri.mono {n0 N : Nat} {c : Code} {Q Q' : PostE} (h : Tri P n0 N c e σ Q) (hq : ∀ ex e σ, Q ex e σ → Q' ex e σ) : Tri P n0 N c e σ Q' :=
  fun Γ0 σ0 w0 Γ w a K h1 h2 h3 h4 h5 h6 h7 => h Γ0 σ0 w0 Γ w a K h1 h2 h3 h4 h5 h6 fun ex e' σ' a' w' hQ hc => h7 ex e' σ' a' w' (hq _ _ _ hQ) hc
theorem Tri.weak {n0 N : Nat} {c : Code} {Q : PostE} {src : List (Nat × Bool)} {l : List (Nat × D)} (hw : Wk n0 src e σ l σ') (h : Tri P n0 N c (tb l) σ' Q) : Tri P n0 N c e σ Q := by
  intro Γ0 σ0 w0 Γ w a K h1 h2 h3 h4 h5 h6 h7
  obtain ⟨Γ', k1, k2, k3⟩ := hw.ok h1 h3 h4 h5 h2
  exact h Γ0 σ0 w0 Γ' w a K h1 h2 k1 k2 k3 h6 h7
/-- A loop, by what lessens. -/
theorem Tri.loop {n0 N : Nat} {c : Code} {S : Type} (T : S → List (Nat × D)) (Sg : S → Store) (μ : S → Nat) (Q : S → PostE)
    (body : ∀ s, Tri P n0 N c (tb (T s)) (Sg s) fun ex e σ => match ex with
      | .normal => ∃ s', μ s' < μ s ∧ (∀ ex e σ, Q s' ex e σ → Q s ex e σ) ∧ ∃ src, Wk n0 src e σ (T s') (Sg s')
      | ex => Q s ex e σ) (s0 : S) : Tri P n0 N (.loop c) (tb (T s0)) (Sg s0) (Q s0) := by
  intro Γ0 σ0 w0 Γ w a K h1 h2 h3 h4 h5 h6 h7
  refine wp_loop_ghost (fun k a1 w1 => ∃ s Γ1, μ s = k ∧ (∀ ex e σ, Q s ex e σ → Q s0 ex e σ) ∧ Reach Γ0 σ0 w0 Γ1 (Sg s) w1 ∧ Slots Γ1 w1 (tb (T s)) a1 ∧ SR Γ1 (Sg s) w1 ∧ a1.tmps.size = N ∧ a1.defers = a.defers) (μ s0) ⟨s0, Γ, rfl, fun _ _ _ h => h, h3, h4, h5, h6, rfl⟩ ?_
  rintro k a1 w1 ⟨s, Γ1, rfl, k2, k3, k4, k5, k6, k7⟩
  refine body s Γ0 σ0 w0 Γ1 w1 a1 _ h1 h2 k3 k4 k5 k6 ?_
  intro ex e' σ' a' w' hQ hc
  rw [k7] at hc
  cases ex with
  | normal =>
    obtain ⟨s', hlt, hqq, src, hw⟩ := hQ
    obtain ⟨Γ2, l1, l2, l3, l4, l5⟩ := hc
    obtain ⟨Γ3, m1, m2, m3⟩ := hw.ok h1 l3 l1 l2 h2
    exact ⟨μ s', hlt, s', Γ3, rfl, fun ex e σ h => k2 _ _ _ (hqq _ _ _ h), m1, m2, m3, l4, l5⟩
  | exit id => exact h7 _ _ _ _ _ (k2 _ _ _ hQ) hc
  | ret => exact h7 _ _ _ _ _ (k2 _ _ _ hQ) hc
end Go.Proofs.Ytfclelafcdcilaa.Dv
/- What must hold for a piece of code to come to its end so: computed from the code alone. Definitions. -/
set_option linter.unusedVariables false
namespace Go.Proofs.Ytfclelafcdcilaa.Dv
open Go

/-- What is known of a slot beside its value. -/
inductive Inf where
  | no | lit | elt (t : TypeId) | arr (t : TypeId) | bs
abbrev Lits := Nat → Inf
def Lits.put (L : Lits) (t : Nat) (i : Inf) : Lits := fun k => if k = t then i else L k
def Lits.putO (L : Lits) (dst : Option Nat) (i : Inf) : Lits := match dst with | some d => L.put d i | none => L
def litOf (L : Lits) : Operand → Inf
  | .tmp t => L t
  | .const (.bool _) => .lit
  | _ => .no
/-- How a number is said: as it is (d), by a name (n), wrapped (w), wrapped and by a name (wn); what a test comes to, if that is known (t, f); a test that is computed (l); an operation that is computed whole (g). -/
inductive Hn where
  | d | n | w | wn | t | f | l | g
structure Codec where
  α : Type
  enc : α → D
structure DOut where
  pre : Prop
  r : D
abbrev SpecD := FuncId → List D → Option DOut
abbrev SpecB := FuncId → List D → Store → Option (Prop × D × Store)
structure LOut (β : Type) where
  α : Type
  post : β → α → Prop
  ex : Ex
  T : β → α → List (Nat × D)
  S : β → α → Store
structure LRow where
  β : Type
  pre : β → Prop
  src : List (Nat × Bool)
  T : β → List (Nat × D)
  S : β → Store
  outs : List (LOut β)
structure WCfg where
  spec : SpecD
  bspec : SpecB := fun _ _ _ => none
  byref : FuncId → Bool := fun _ => false
  ro : FuncId → Bool := fun _ => false
  cod : TypeId → Option Codec
  H : Nat → Hn := fun _ => .d
  loops : Nat → Option LRow := fun _ => none
  unr : Nat → Nat := fun _ => 0
  n0 : Nat := 0
def WCfg.M (C : WCfg) : Modes := { good := fun _ => true, byref := C.byref, ro := C.ro, prim := fun _ => none }
def slotOf (o : Oper) : Nat := match o.dst with | some d => d | none => 100000
def hints (l : List (Nat × Hn)) : Nat → Hn := fun t => (l.lookup t).getD .d

/-! ### numbers -/
def inK (k : IntKind) (x : Int) : Prop :=
  match k with
  | .i64 => -9223372036854775808 ≤ x ∧ x ≤ 9223372036854775807
  | .u64 => 0 ≤ x ∧ x ≤ 18446744073709551615
  | .u8 => 0 ≤ x ∧ x ≤ 255
  | .u32 => 0 ≤ x ∧ x ≤ 4294967295
  | .i32 => -2147483648 ≤ x ∧ x ≤ 2147483647
  | k => IntKind.wrap k x = x
def wr (k : IntKind) (x : Int) : Int :=
  match k with
  | .i64 => (x + 9223372036854775808) % 18446744073709551616 - 9223372036854775808
  | .u64 => x % 18446744073709551616
  | .u8 => x % 256
  | .u32 => x % 4294967296
  | k => IntKind.wrap k x
def wpInt (h : Hn) (k : IntKind) (x : Int) (K : D → Prop) : Prop :=
  match h with
  | .d => inK k x ∧ K (.int k x)
  | .n => inK k x ∧ ∀ v, v = x → K (.int k v)
  | .w => K (.int k (wr k x))
  | .wn => ∀ v, v = wr k x → K (.int k v)
  | _ => inK k x ∧ K (.int k x)
def wpQuo (h : Hn) (k : IntKind) (a b : Int) (K : D → Prop) : Prop :=
  match h with
  | .d => 0 ≤ a ∧ 0 < b ∧ inK k a ∧ K (.int k (a / b))
  | .n => 0 ≤ a ∧ 0 < b ∧ inK k a ∧ ∀ v, v = a / b → K (.int k v)
  | .w => b ≠ 0 ∧ K (.int k (wr k (a.tdiv b)))
  | .wn => b ≠ 0 ∧ ∀ v, v = wr k (a.tdiv b) → K (.int k v)
  | _ => False
def wpRem (h : Hn) (k : IntKind) (a b : Int) (K : D → Prop) : Prop :=
  match h with
  | .d => 0 ≤ a ∧ 0 < b ∧ K (.int k (a % b))
  | .n => 0 ≤ a ∧ 0 < b ∧ ∀ v, v = a % b → K (.int k v)
  | .w => b ≠ 0 ∧ K (.int k (a.tmod b))
  | .wn => b ≠ 0 ∧ ∀ v, v = a.tmod b → K (.int k v)
  | _ => False
def wpName (h : Hn) (k : IntKind) (x : Int) (K : D → Prop) : Prop :=
  match h with
  | .n | .wn => ∀ v, v = x → K (.int k v)
  | _ => K (.int k x)
def andK (k : IntKind) (a b : Int) : Int := k.wrap (BitVec.ofInt k.bits a &&& BitVec.ofInt k.bits b).toNat
def orK (k : IntKind) (a b : Int) : Int := k.wrap (BitVec.ofInt k.bits a ||| BitVec.ofInt k.bits b).toNat
def xorK (k : IntKind) (a b : Int) : Int := k.wrap (BitVec.ofInt k.bits a ^^^ BitVec.ofInt k.bits b).toNat
def shlK (k : IntKind) (a b : Int) : Int := wr k (a * 2 ^ (min b.toNat k.bits))
def shrK (k : IntKind) (a b : Int) : Int := a / 2 ^ (min b.toNat k.bits)
def onO {α : Type} (o : Option α) (K : α → Prop) : Prop := match o with | some a => K a | none => False
def wpBin (P : Program) (h : Hn) (op : BinOp) (t : TypeId) (x y : D) (K : D → Prop) : Prop :=
  match x, y with
  | .int k a, .int k' b => match op with
    | .add => onB (decide (k = k')) (wpInt h k (a + b) K)
    | .sub => onB (decide (k = k')) (wpInt h k (a - b) K)
    | .mul => onB (decide (k = k')) (wpInt h k (a * b) K)
    | .quo => onB (decide (k = k')) (wpQuo h k a b K)
    | .rem => onB (decide (k = k')) (wpRem h k a b K)
    | .shl => 0 ≤ b ∧ wpName h k (shlK k a b) K
    | .shr => 0 ≤ b ∧ wpName h k (shrK k a b) K
    | .and => onB (decide (k = k')) (wpName h k (andK k a b) K)
    | .or => onB (decide (k = k')) (wpName h k (orK k a b) K)
    | .xor => onB (decide (k = k')) (wpName h k (xorK k a b) K)
    | op => onO (evBin P op t x y) K
  | .str a, .str b => match op with
    | .add => a.size + b.size ≤ 4611686018427387904 ∧ K (.str (a ++ b))
    | op => onO (binStr op a b) K
  | x, y => onO (evBin P op t x y) K

/-- A comparison with nil. -/
def wpNil (P : Program) (op : BinOp) (t : TypeId) (x : D) (K : D → Prop) : Prop :=
  match (ti P t).k with
  | .sl _ => match op with
    | .eql => (match x with
      | .sl _ xs => xs ≠ [] ∧ K (.bool false)
      | .ms _ _ len _ _ => 0 < len ∧ K (.bool false)
      | .nsl b => K (.bool b)
      | _ => False)
    | .neq => (match x with
      | .sl _ xs => xs ≠ [] ∧ K (.bool true)
      | .ms _ _ len _ _ => 0 < len ∧ K (.bool true)
      | .nsl b => K (.bool (!b))
      | _ => False)
    | _ => False
  | _ => False

/-! ### lending, and what is handed out -/
def lendLeafW (σ : Store) (d : D) (K : D → List Nat → Prop) : Prop :=
  match d with
  | .ms id off len cap ex => match σ.obj id with
    | some (.row _ _ xs) => off + len ≤ xs.length ∧ ((xs.drop off).take len).all D.pure = true ∧ K (.sl (ex && decide (cap = len)) ((xs.drop off).take len)) [id]
    | _ => False
  | d => K d []
def lendLeavesW (σ : Store) : List D → (List D → List Nat → Prop) → Prop
  | [], K => K [] []
  | d :: ds, K => lendLeafW σ d fun d' l => lendLeavesW σ ds fun ds' l' => K (d' :: ds') (l ++ l')
def lendW (σ : Store) (d : D) (K : D → List Nat → Prop) : Prop :=
  match d with
  | .agg ds => lendLeavesW σ ds fun ds' l => K (.agg ds') l
  | d => lendLeafW σ d K
def lendsW (σ : Store) : List D → (List D → List Nat → Prop) → Prop
  | [], K => K [] []
  | d :: ds, K => lendW σ d fun d' l => lendsW σ ds fun ds' l' => K (d' :: ds') (l ++ l')
def frzLeafW (σ : Store) (d : D) (K : D → Prop) : Prop :=
  match d with
  | .ms id off len cap ex => match σ.obj id with
    | some (.row st _ xs) => onB (decide (st ≠ .shut)) (off + len ≤ xs.length ∧ ((xs.drop off).take len).all D.pure = true ∧ K (.sl (ex && decide (cap = len)) ((xs.drop off).take len)))
    | _ => False
  | d => onB d.pleaf (K d)
def frzLeavesW (σ : Store) : List D → (List D → Prop) → Prop
  | [], K => K []
  | d :: ds, K => frzLeafW σ d fun d' => frzLeavesW σ ds fun ds' => K (d' :: ds')
def frzValW (σ : Store) (d : D) (K : D → Prop) : Prop :=
  match d with
  | .agg ds => frzLeavesW σ ds fun ds' => K (.agg ds')
  | d => frzLeafW σ d K
def frzValsW (σ : Store) : List D → (List D → Prop) → Prop
  | [], K => K []
  | d :: ds, K => frzValW σ d fun d' => frzValsW σ ds fun ds' => K (d' :: ds')
def frzW (σ : Store) (d : D) (K : D → Prop) : Prop :=
  match d with
  | .tup ds => frzValsW σ ds fun ds' => K (.tup ds')
  | d => frzValW σ d K

/-! ### operations -/
abbrev KOp := Env → Lits → D → Inf → Store → Foot → Prop
def askW (h : Hn) (e : Env) (L : Lits) (d : Nat) (b : Bool) (K : Bool → Env → Lits → Prop) : Prop :=
  match L d with
  | .lit => (match b with | true => K true e L | false => K false e L)
  | _ => match h with
    | .t => b = true ∧ K true (e.put d (.bool true)) (L.put d .lit)
    | .f => b = false ∧ K false (e.put d (.bool false)) (L.put d .lit)
    | .l => (match b with | true => K true e L | false => K false e L)
    | _ => (b = true → K true (e.put d (.bool true)) (L.put d .lit)) ∧ (b = false → K false (e.put d (.bool false)) (L.put d .lit))
def genW (P : Program) (o : Oper) (e : Env) (L : Lits) (aid : Nat) (σ : Store) (i : Inf) (K : KOp) : Prop :=
  match evOp P o e aid σ with
  | some (v, σ', f) => K e L v i σ' f
  | none => False
def loadW (P : Program) (C : WCfg) (t : TypeId) (a : D) (i : Inf) (σ : Store) (K : D → Foot → Prop) : Prop :=
  match i with
  | .elt et => match a with
    | .ptr id i j => match σ.obj id with
      | some (.row _ _ xs) => match C.cod et with
        | some cd => ∃ x : cd.α, xs[i]? = some (cd.enc x) ∧ onO (sub (ti P t) (cd.enc x) j) fun v => K v (.rd id)
        | none => False
      | _ => False
    | a => onO (evLoad (ti P t) a σ) fun r => K r.1 r.2
  | .arr et => match a with
    | .ptr id i j => match σ.obj id with
      | some (.row _ _ xs) => match xs[i]?, C.cod et with
        | some (.agg ds), some cd => ∃ x : cd.α, ds[j]? = some (cd.enc x) ∧ onB (decide ((ti P t).k.known = true ∧ (ti P t).k.isAgg = false ∧ (ti P t).sz = 1)) (K (cd.enc x) (.rd id))
        | _, _ => False
      | _ => False
    | _ => False
  | _ => onO (evLoad (ti P t) a σ) fun r => K r.1 r.2
def storeW (P : Program) (C : WCfg) (t : TypeId) (a v : D) (i : Inf) (σ : Store) (K : Store → Foot → Prop) : Prop :=
  match i with
  | .elt et => match a with
    | .ptr id i j => match σ.obj id with
      | some (.row .own esz xs) => match C.cod et with
        | some cd => ∃ x : cd.α, xs[i]? = some (cd.enc x) ∧ onB (okVal (ti P t) v) (onO (upd (cd.enc x) j v) fun x' => K (σ.put id (some (.row .own esz (xs.set i x')))) (.wr id))
        | none => False
      | _ => False
    | a => onO (evStore (ti P t) a v σ) fun r => K r.1 r.2
  | .arr et => match a with
    | .ptr id i j => match σ.obj id with
      | some (.row .own esz xs) => match xs[i]? with
        | some (.agg ds) => j < ds.length ∧ onB (okVal (ti P t) v && !v.isAgg) (K (σ.put id (some (.row .own esz (xs.set i (.agg (setRange ds j v.cells)))))) (.wr id))
        | _ => False
      | _ => False
    | _ => False
  | _ => onO (evStore (ti P t) a v σ) fun r => K r.1 r.2
def idxW (P : Program) (C : WCfg) (t : TypeId) (x ix : D) (σ : Store) (K : D → Inf → Foot → Prop) : Prop :=
  match (ti P t).k, x, ix with
  | .sl et, .sl _ xs, .int _ n => match C.cod et with
    | some cd => ∃ y : cd.α, 0 ≤ n ∧ xs[n.toNat]? = some (cd.enc y) ∧ onB (decide ((cd.enc y).cells.length = (ti P et).sz ∧ 0 < (ti P et).sz)) (K (.cpt (cd.enc y) 0) .no .none)
    | none => False
  | .sl et, .ms id off len _ _, .int _ n => 0 ≤ n ∧ n < len ∧ onB (decide (0 < (ti P et).sz ∧ σ.esz id = some (ti P et).sz)) (K (.ptr id (off + n.toNat) 0) (.elt et) (.rd id))
  | .arr m e, .ptr id i j, .int _ n => 0 ≤ n ∧ n < m ∧ onB (decide (0 < (ti P e).sz)) (K (.ptr id i (j + n.toNat * (ti P e).sz)) (.arr e) .none)
  | _, x, ix => onO (evIndexAddr P t x ix σ) fun r => K r.1 .no r.2
def bndW (dflt : Nat) (o : Option D) (K : Nat → Prop) : Prop :=
  match o with
  | none => K dflt
  | some (.int _ n) => 0 ≤ n ∧ K n.toNat
  | some _ => False
def sliceW (P : Program) (t : TypeId) (x : D) (lo hi mx : Option D) (σ : Store) (K : D → Foot → Prop) : Prop :=
  match (ti P t).k, x with
  | .str, .str s => match mx with
    | none => bndW s.size hi fun h => bndW 0 lo fun l => l ≤ h ∧ h ≤ s.size ∧ K (.str (s.extract l h)) .none
    | some _ => False
  | .sl et, .sl full xs => match mx with
    | none => bndW xs.length hi fun h => bndW 0 lo fun l => l ≤ h ∧ h ≤ xs.length ∧ ((xs.take h).drop l).all (fun y => y.cells.length == (ti P et).sz) = true ∧ onB (decide (0 < (ti P et).sz)) (K (.sl (full && decide (h = xs.length)) ((xs.take h).drop l)) .none)
    | some _ => False
  | .sl et, .ms id off len cap ex => match mx with
    | none => bndW len hi fun h => bndW 0 lo fun l => l ≤ h ∧ h ≤ cap ∧ onB (decide (0 < (ti P et).sz ∧ σ.esz id = some (ti P et).sz)) (K (.ms id (off + l) (h - l) (cap - l) ex) (.rd id))
    | some _ => False
  | _, _ => onO (evSlice P t x lo hi mx σ) fun r => K r.1 r.2
def makeW (P : Program) (t : TypeId) (l c : D) (aid : Nat) (σ : Store) (K : D → Store → Foot → Prop) : Prop :=
  match (ti P t).k, l, c with
  | .sl e, .int _ n, .int _ m => 0 ≤ n ∧ n ≤ m ∧ m * (ti P e).bytes ≤ 140737488355328 ∧ m ≤ 140737488355328 ∧
      onB (decide (0 < (ti P e).sz ∧ (ti P e).zero.elem ∧ (ti P e).zero.cells.length = (ti P e).sz)) (K (.ms aid 0 n.toNat m.toNat true) (σ.put aid (some (.row .own (ti P e).sz (List.replicate m.toNat (ti P e).zero)))) (.new aid))
  | _, _, _ => False
def elemsW (σ : Store) (d : D) (K : List D → Prop) : Prop :=
  match d with
  | .sl _ xs => K xs
  | .nsl _ => K []
  | .ms id off len _ _ => match σ.obj id with
    | some (.row _ _ xs) => off + len ≤ xs.length ∧ K ((xs.drop off).take len)
    | _ => False
  | _ => False
def okEl (n : Nat) (y : D) : Bool := y.elem && y.cells.length == n
/-- What is appended to what lies in memory of one's own. -/
def appMsW (hn : Hn) (bytes sz : Nat) (id off len cap : Nat) (ex lit : Bool) (news : List D) (fx : List Nat) (aid : Nat) (σ : Store) (K : D → Store → Foot → Prop) : Prop :=
  match σ.obj id with
  | some (.row .own esz xs) => off + cap ≤ xs.length ∧ len ≤ cap ∧ (len + news.length) * max bytes 1 ≤ 140737488355328 ∧ onB (decide (esz = sz))
      (match hn with
      | .t => len + news.length ≤ cap ∧ K (.ms id off (len + news.length) cap ex) (σ.put id (some (.row .own esz (xs.take (off + len) ++ news ++ xs.drop (off + len + news.length))))) (.app (id :: fx) [id])
      | .f => cap < len + news.length ∧ (match ex with
            | true => K (.ms aid 0 (len + news.length) (len + news.length) false) (σ.put aid (some (.row .own esz ((xs.drop off).take len ++ news)))) (.app (id :: fx) [aid])
            | false => off = 0 ∧ K (.ms aid 0 (len + news.length) (len + news.length) false) ((σ.put id Option.none).put aid (some (.row .own esz (xs.take len ++ news)))) (.app (id :: fx) [id, aid]))
      | _ => match ex || !lit with
      | true => (len + news.length ≤ cap → K (.ms id off (len + news.length) cap ex) (σ.put id (some (.row .own esz (xs.take (off + len) ++ news ++ xs.drop (off + len + news.length))))) (.app (id :: fx) [id])) ∧
          (cap < len + news.length → (match ex with
            | true => K (.ms aid 0 (len + news.length) (len + news.length) false) (σ.put aid (some (.row .own esz ((xs.drop off).take len ++ news)))) (.app (id :: fx) [aid])
            | false => off = 0 ∧ K (.ms aid 0 (len + news.length) (len + news.length) false) ((σ.put id Option.none).put aid (some (.row .own esz (xs.take len ++ news)))) (.app (id :: fx) [id, aid])))
      | false => cap < len + news.length ∧ off = 0 ∧ K (.ms aid 0 (len + news.length) (len + news.length) false) ((σ.put id Option.none).put aid (some (.row .own esz (xs.take len ++ news)))) (.app (id :: fx) [id, aid]))
  | _ => False
def appSlW (hn : Hn) (bytes sz : Nat) (full : Bool) (xs news : List D) (fx : List Nat) (aid : Nat) (σ : Store) (K : D → Store → Foot → Prop) : Prop :=
  match hn with
  | .t => news = [] ∧ K (.sl full xs) σ (.app fx [])
  | .f => news ≠ [] ∧ full = true ∧ xs.all (okEl sz) = true ∧ (xs.length + news.length) * max bytes 1 ≤ 140737488355328 ∧
    K (.ms aid 0 (xs.length + news.length) (xs.length + news.length) false) (σ.put aid (some (.row .own sz (xs ++ news)))) (.app fx [aid])
  | _ => (news = [] → K (.sl full xs) σ (.app fx [])) ∧ (news ≠ [] → full = true ∧ xs.all (okEl sz) = true ∧ (xs.length + news.length) * max bytes 1 ≤ 140737488355328 ∧
    K (.ms aid 0 (xs.length + news.length) (xs.length + news.length) false) (σ.put aid (some (.row .own sz (xs ++ news)))) (.app fx [aid]))
/-- Zeros behind what stands. -/
def appZW (P : Program) (et : TypeId) (s : D) (n : Int) (aid : Nat) (σ : Store) (K : D → Store → Prop) : Prop :=
  let E := ti P et
  match s with
  | .ms id off len cap ex => match ex with
    | true => match σ.obj id with
      | some (.row _ esz xs) => onB (decide (0 < E.sz ∧ E.zero.elem ∧ E.zero.cells.length = E.sz ∧ esz = E.sz)) (off + len ≤ xs.length ∧ cap < len + n.toNat ∧ (len + n.toNat) * max E.bytes 1 ≤ 140737488355328 ∧
          K (.ms aid 0 (len + n.toNat) (len + n.toNat) false) (σ.put aid (some (.row .own E.sz ((xs.drop off).take len ++ List.replicate n.toNat E.zero)))))
      | _ => False
    | false => False
  | .sl full xs => match full with
    | true => onB (decide (0 < E.sz ∧ E.zero.elem ∧ E.zero.cells.length = E.sz)) (xs.all (okEl E.sz) = true ∧ 0 < n ∧ (xs.length + n.toNat) * max E.bytes 1 ≤ 140737488355328 ∧
          K (.ms aid 0 (xs.length + n.toNat) (xs.length + n.toNat) false) (σ.put aid (some (.row .own E.sz (xs ++ List.replicate n.toNat E.zero)))))
    | false => False
  | _ => False
def appendW (P : Program) (hn : Hn) (o : Oper) (t t2 : TypeId) (s x : D) (lit : Bool) (e : Env) (aid : Nat) (σ : Store) (K : D → Store → Foot → Prop) : Prop :=
  match (ti P t2).k, (ti P t).k with
  | .sl _, .sl et =>
    let E := ti P et
    onB (decide (0 < E.sz ∧ E.zero.elem ∧ E.zero.cells.length = E.sz))
    (match s, lit with
    | .ms id off len cap ex, true => onO (elems σ x) fun nw => onB (nw.1.all (okEl E.sz)) (appMsW hn E.bytes E.sz id off len cap ex true nw.1 (rowIds x) aid σ K)
    | .ms id off len cap ex, false => elemsW σ x fun news => news.all (okEl E.sz) = true ∧ appMsW hn E.bytes E.sz id off len cap ex false news (rowIds x) aid σ K
    | .sl full xs, false => elemsW σ x fun news => news.all (okEl E.sz) = true ∧ appSlW hn E.bytes E.sz full xs news (rowIds x) aid σ K
    | _, _ => onO (evOp P o e aid σ) fun r => K r.1 r.2.1 r.2.2)
  | .int _, .sl et => match x with
    | .int _ n => appZW P et s n aid σ fun v s => K v s .wrAll
    | _ => False
  | _, _ => False
def copyW (P : Program) (t : TypeId) (s x : D) (σ : Store) (K : D → Store → Foot → Prop) : Prop :=
  match (ti P t).k, s with
  | .sl e, .ms id off len _ _ => elemsW σ x fun news => match σ.obj id with
    | some (.row .own esz xs) => onB (decide (esz = (ti P e).sz)) (off + len ≤ xs.length ∧ (news.take (min news.length len)).all (okEl esz) = true ∧
        K (.int .i64 (min news.length len : Nat)) (σ.put id (some (.row .own esz (xs.take off ++ news.take (min news.length len) ++ xs.drop (off + min news.length len))))) .wrAll)
    | _ => False
  | _, _ => False
/-- A stretch set to zero. -/
def clearW (P : Program) (t : TypeId) (s : D) (σ : Store) (K : Store → Prop) : Prop :=
  match (ti P t).k, s with
  | .sl e, .ms id off len _ _ => match σ.obj id with
    | some (.row .own esz xs) => onB (decide (esz = (ti P e).sz ∧ (ti P e).zero.elem ∧ (ti P e).zero.cells.length = (ti P e).sz)) (off + len ≤ xs.length ∧
        K (σ.put id (some (.row .own esz (xs.take off ++ List.replicate len (ti P e).zero ++ xs.drop (off + len))))))
    | _ => False
  | _, _ => False
def isBs : Inf → Bool
  | .bs => true
  | _ => false
def callW (P : Program) (C : WCfg) (o : Oper) (e : Env) (L : Lits) (aid : Nat) (σ : Store) (c : Call) (K : KOp) : Prop :=
  match c.callee with
  | .value f => match evCallee e { callee := .value f, args := c.args, argTypes := c.argTypes } with
    | some (g, as) => match C.byref g with
      | true => match C.bspec g as σ with
        | some (p, r, σ') => p ∧ K e L r .no σ' (.call (as.flatMap fun d => (lend σ d).2))
        | none => False
      | false => lendsW σ as fun as' lent => onB (as'.all D.free) (match C.spec g as' with
        | some o => o.pre ∧ onO (σ.behind lent o.r) fun σ' => K e L o.r .no σ' (.call lent)
        | none => False)
    | none => False
  | .builtin .append => match c.argTypes.toList, c.args.toList with
    | [t, t2], [s, x] => appendW P (C.H (slotOf o)) o t t2 (opnd e s) (opnd e x) (isBs (litOf L x)) e aid σ fun v σ' f => K e L v .no σ' f
    | _, _ => False
  | .builtin .copy => match c.argTypes.toList, c.args.toList with
    | [t, _], [s, x] => copyW P t (opnd e s) (opnd e x) σ fun v σ' f => K e L v .no σ' f
    | _, _ => False
  | .builtin .clear => match c.argTypes.toList, c.args.toList with
    | [t], [s] => clearW P t (opnd e s) σ fun σ' => K e L .undef .no σ' .wrAll
    | _, _ => False
  | _ => genW P o e L aid σ .no K
def wpOp1 (P : Program) (C : WCfg) (o : Oper) (e : Env) (L : Lits) (aid : Nat) (σ : Store) (K : KOp) : Prop :=
  match o.op with
  | .move x | .assign x => K e L (opnd e x) (litOf L x) σ .none
  | .pick c a b => match c with
    | .tmp d => match e d with
      | .bool t => askW (C.H d) e L d t fun t e L => match t with
        | true => K e L (opnd e a) (litOf L a) σ .none
        | false => K e L (opnd e b) (litOf L b) σ .none
      | _ => False
    | _ => genW P o e L aid σ .no K
  | .binOp op t x y _ => match isNilS y with
    | true => wpNil P op t (opnd e x) fun v => K e L v .no σ .none
    | false => wpBin P (C.H (slotOf o)) op t (opnd e x) (opnd e y) fun v => K e L v .no σ .none
  | .unOp _ _ x => genW P o e L aid σ (litOf L x) K
  | .convert s t x => match (ti P t).k, opnd e x with
    | .int k, .int _ n => onB (ti P s).k.known (wpInt (C.H (slotOf o)) k n fun v => K e L v .no σ .none)
    | _, _ => genW P o e L aid σ .no K
  | .load t a => loadW P C t (opnd e a) (litOf L a) σ fun v f => K e L v .no σ f
  | .store t a x => storeW P C t (opnd e a) (opnd e x) (litOf L a) σ fun σ' f => K e L .undef .no σ' f
  | .indexAddr t x ix => idxW P C t (opnd e x) (opnd e ix) σ fun v i f => K e L v i σ f
  | .index t x ix => match (ti P t).k, opnd e x, opnd e ix with
    | .str, .str s, .int _ n => ∃ b : UInt8, 0 ≤ n ∧ s[n.toNat]? = some b ∧ K e L (.int .u8 b.toNat) .no σ .none
    | _, _, _ => genW P o e L aid σ .no K
  | .extract x ix => match evOp P o e aid σ with
    | some (.int k n, _, _) => wpName (C.H (slotOf o)) k n fun v => K e L v .no σ .none
    | some (v, _, _) => K e L v .no σ .none
    | none => False
  | .fieldAddr _ x _ => genW P o e L aid σ (litOf L x) K
  | .buildSlice .. => genW P o e L aid σ .bs K
  | .makeSlice t l c => makeW P t (opnd e l) (opnd e c) aid σ fun v σ' f => K e L v .no σ' f
  | .slice t x lo hi mx => sliceW P t (opnd e x) (lo.map (opnd e)) (hi.map (opnd e)) (mx.map (opnd e)) σ fun v f => K e L v .no σ f
  | .call c => callW P C o e L aid σ c K
  | _ => genW P o e L aid σ .no K
def isG : Hn → Bool
  | .g => true
  | _ => false
def notGo (o : Oper) : Bool :=
  match o.op with
  | .call { callee := .value _, .. } => false
  | _ => true
def wpOp (P : Program) (C : WCfg) (o : Oper) (e : Env) (L : Lits) (aid : Nat) (σ : Store) (K : KOp) : Prop :=
  match isG (C.H (slotOf o)) && notGo o with
  | true => genW P o e L aid σ .no K
  | false => wpOp1 P C o e L aid σ K
def wantsW (C : WCfg) (ops : Array Oper) (e : Env) (L : Lits) (o : Oper) (K : Bool → Env → Lits → Prop) : Prop :=
  match o.guard with
  | none => K true e L
  | some (g, want) => match (ops[g]?).bind (·.dst) with
    | some d => match e d with
      | .bool b => askW (C.H d) e L d b fun t e L => match t == want with
        | true => K true e L
        | false => K false e L
      | .undef => K false e L
      | _ => False
    | none => False
def wpL (P : Program) (C : WCfg) (ops : Array Oper) : List Oper → Nat → Env → Lits → Store → (Env → Lits → Store → List Foot → Prop) → Prop
  | [], _, e, L, σ, Q => Q e L σ []
  | o :: rest, aid, e, L, σ, Q => wantsW C ops e L o fun t e L => match t with
    | true => wpOp P C o e L aid σ fun e L v i σ' f => wpL P C ops rest (if allocs o then aid + 1 else aid) (putO e o.dst v) (L.putO o.dst i) σ' fun e L σ fs => Q e L σ (f :: fs)
    | false => wpL P C ops rest (if allocs o then aid + 1 else aid) (putO e o.dst .undef) (L.putO o.dst .no) σ fun e L σ fs => Q e L σ (.none :: fs)

/-! ### code -/
abbrev KC := Ex → Env → Lits → Store → Prop
def keyOf : Code → Nat
  | .region id _ _ => id
  | .seq a b => let k := keyOf a; if k = 1000000 then keyOf b else k
  | .cond _ a b => let k := keyOf a; if k = 1000000 then keyOf b else k
  | .block _ c => keyOf c
  | .loop c => keyOf c
  | .scope c => keyOf c
  | _ => 1000000
def outsW {β : Type} (b : β) (Q : KC) : List (LOut β) → Prop
  | [] => True
  | [o] => ∀ a : o.α, o.post b a → Q o.ex (tb (o.T b a)) (fun _ => .no) (o.S b a)
  | o :: os => (∀ a : o.α, o.post b a → Q o.ex (tb (o.T b a)) (fun _ => .no) (o.S b a)) ∧ outsW b Q os
/-- So many rounds, one by one. -/
def unrollW (body : Env → Lits → Store → KC → Prop) : Nat → Env → Lits → Store → KC → Prop
  | 0, _, _, _, _ => False
  | n + 1, e, L, σ, Q => body e L σ fun ex e L σ => match ex with
    | .normal => unrollW body n e L σ Q
    | ex => Q ex e L σ
def wpC (P : Program) (C : WCfg) : Code → Env → Lits → Store → KC → Prop
  | .skip, e, L, σ, Q => Q .normal e L σ
  | .label _, e, L, σ, Q => Q .normal e L σ
  | .ret, e, L, σ, Q => Q .ret e L σ
  | .exit id, e, L, σ, Q => Q (.exit id) e L σ
  | .region _ ops draw, e, L, σ, Q => wpL P C ops ops.toList σ.length e L (σ ++ List.replicate (nallocs ops.toList) Option.none) fun e L σ fs =>
      onB (!draw || (badPairs ops).isEmpty || feetOk ops (badPairs ops) fs) (Q .normal e L σ)
  | .seq a b, e, L, σ, Q => wpC P C a e L σ fun ex e L σ => match ex with
    | .normal => wpC P C b e L σ Q
    | ex => Q ex e L σ
  | .cond c a b, e, L, σ, Q => match c with
    | .tmp d => match e d with
      | .bool t => askW (C.H d) e L d t fun t e L => match t with
        | true => wpC P C a e L σ Q
        | false => wpC P C b e L σ Q
      | _ => False
    | c => match opnd e c with
      | .bool true => wpC P C a e L σ Q
      | .bool false => wpC P C b e L σ Q
      | _ => False
  | .block id c, e, L, σ, Q => wpC P C c e L σ fun ex e L σ => match ex with
    | .exit id' => (match decide (id' = id) with | true => Q .normal e L σ | false => Q (.exit id') e L σ)
    | ex => Q ex e L σ
  | .scope c, e, L, σ, Q => wpC P C c e L σ Q
  | .loop c, e, L, σ, Q => match C.unr (keyOf c) with
    | n + 1 => unrollW (fun e L σ Q => wpC P C c e L σ Q) (n + 1) e L σ Q
    | 0 => match C.loops (keyOf c) with
    | some row => ∃ b : row.β, row.pre b ∧ Wk C.n0 row.src e σ (row.T b) (row.S b) ∧ outsW b Q row.outs
    | none => False
  | _, _, _, _, _ => False
/-- The end of a function: this is handed out. -/
def endW (P : Program) (fn : Func) (K : D → Prop) : KC := fun ex e L σ =>
  match ex with
  | .exit _ => False
  | _ => onO (resultsD P fn.results.toList e σ) fun d => frzW σ d K
def bodyOf (fn : Func) : Code := match fn.body with | some c => c | none => .skip
def wpF (P : Program) (C : WCfg) (fn : Func) (args : List D) (r : D) : Prop :=
  wpC P C (bodyOf fn) (entry args) (fun _ => .no) [] (endW P fn fun r' => r' = r)
/-- The code of a loop, by its first region. -/
def loopsOf : Code → List Code
  | .seq a b => loopsOf a ++ loopsOf b
  | .cond _ a b => loopsOf a ++ loopsOf b
  | .block _ c => loopsOf c
  | .loop c => c :: loopsOf c
  | .scope c => loopsOf c
  | _ => []
def lp (fn : Func) (k : Nat) : Code := ((loopsOf (bodyOf fn)).find? fun c => keyOf c == k).getD .skip
/-- A round of a loop. -/
def wpR (P : Program) (C : WCfg) (c : Code) (T : List (Nat × D)) (Sg : Store) (Q : Ex → Env → Store → Prop) : Prop :=
  wpC P C c (tb T) (fun _ => .no) Sg fun ex e _ σ => Q ex e σ
end Go.Proofs.Ytfclelafcdcilaa.Dv
/- What is computed from the code holds of the machine. -/
set_option linter.unusedVariables false
set_option linter.unusedSimpArgs false
namespace Go.Proofs.Ytfclelafcdcilaa.Dv
open Go

theorem inK_wrap {k : IntKind} {x : Int} (h : inK k x) : IntKind.wrap k x = x := by
  cases k <;> simp only [inK] at h <;> first | exact h | skip
  all_goals
    unfold IntKind.wrap
    simp only [show (2 ^ IntKind.bits .i64 : Int) = 18446744073709551616 by decide, show (2 ^ (IntKind.bits .i64 - 1) : Int) = 9223372036854775808 by decide, show IntKind.signed .i64 = true from rfl,
      show (2 ^ IntKind.bits .u64 : Int) = 18446744073709551616 by decide, show (2 ^ (IntKind.bits .u64 - 1) : Int) = 9223372036854775808 by decide, show IntKind.signed .u64 = false from rfl,
      show (2 ^ IntKind.bits .u8 : Int) = 256 by decide, show IntKind.signed .u8 = false from rfl, show (2 ^ IntKind.bits .u32 : Int) = 4294967296 by decide, show IntKind.signed .u32 = false from rfl,
      show (2 ^ IntKind.bits .i32 : Int) = 4294967296 by decide, show (2 ^ (IntKind.bits .i32 - 1) : Int) = 2147483648 by decide, show IntKind.signed .i32 = true from rfl, Bool.true_and, Bool.false_and, decide_eq_true_eq, Bool.false_eq_true, if_false]
    try split
    all_goals omega
theorem wr_wrap {k : IntKind} {x : Int} : wr k x = IntKind.wrap k x := by
  cases k <;> simp only [wr] <;> unfold IntKind.wrap <;>
    simp only [show (2 ^ IntKind.bits .i64 : Int) = 18446744073709551616 by decide, show (2 ^ (IntKind.bits .i64 - 1) : Int) = 9223372036854775808 by decide, show IntKind.signed .i64 = true from rfl,
      show (2 ^ IntKind.bits .u64 : Int) = 18446744073709551616 by decide, show IntKind.signed .u64 = false from rfl,
      show (2 ^ IntKind.bits .u8 : Int) = 256 by decide, show IntKind.signed .u8 = false from rfl, show (2 ^ IntKind.bits .u32 : Int) = 4294967296 by decide, show IntKind.signed .u32 = false from rfl,
      Bool.true_and, Bool.false_and, decide_eq_true_eq, Bool.false_eq_true, if_false]
  split <;> omega
theorem inK_div {k : IntKind} {a b : Int} (h : inK k a) (ha : 0 ≤ a) (hb : 0 < b) : IntKind.wrap k (a.tdiv b) = a / b := by
  have e : a.tdiv b = a / b := Int.tdiv_eq_ediv_of_nonneg ha
  have h1 : 0 ≤ a / b := Int.ediv_nonneg ha (by omega)
  have h2 : a / b ≤ a := Int.ediv_le_self b ha
  rw [e]
  cases k with
  | i64 | u64 | u8 | u32 | i32 => exact inK_wrap (by simp only [inK] at h ⊢; omega)
  | _ =>
    simp only [inK] at h
    have : IntKind.wrap _ a = a := h
    unfold IntKind.wrap at this ⊢
    simp only [show (2 ^ IntKind.bits .i8 : Int) = 256 by decide, show (2 ^ (IntKind.bits .i8 - 1) : Int) = 128 by decide, show IntKind.signed .i8 = true from rfl,
      show (2 ^ IntKind.bits .i16 : Int) = 65536 by decide, show (2 ^ (IntKind.bits .i16 - 1) : Int) = 32768 by decide, show IntKind.signed .i16 = true from rfl,
      show (2 ^ IntKind.bits .u16 : Int) = 65536 by decide, show IntKind.signed .u16 = false from rfl, Bool.true_and, Bool.false_and, decide_eq_true_eq, Bool.false_eq_true, if_false] at this ⊢
    try split at this
    all_goals try split
    all_goals omega
theorem onO_ok {α : Type} {o : Option α} {K : α → Prop} (h : onO o K) : ∃ a, o = some a ∧ K a := by
  unfold onO at h
  split at h
  · exact ⟨_, rfl, h⟩
  · exact h.elim
theorem wpInt_ok {h : Hn} {k : IntKind} {x : Int} {K : D → Prop} (hw : wpInt h k x K) : K (.int k (k.wrap x)) := by
  unfold wpInt at hw
  split at hw
  · rw [inK_wrap hw.1]; exact hw.2
  · rw [inK_wrap hw.1]; exact hw.2 _ rfl
  · rw [← wr_wrap]; exact hw
  · rw [← wr_wrap]; exact hw _ rfl
  · rw [inK_wrap hw.1]; exact hw.2
theorem wpQuo_ok {h : Hn} {k : IntKind} {a b : Int} {K : D → Prop} (hw : wpQuo h k a b K) : b ≠ 0 ∧ K (.int k (k.wrap (a.tdiv b))) := by
  unfold wpQuo at hw
  split at hw
  · obtain ⟨h1, h2, h3, h4⟩ := hw; exact ⟨by omega, by rw [inK_div h3 h1 h2]; exact h4⟩
  · obtain ⟨h1, h2, h3, h4⟩ := hw; exact ⟨by omega, by rw [inK_div h3 h1 h2]; exact h4 _ rfl⟩
  · exact ⟨hw.1, by rw [← wr_wrap]; exact hw.2⟩
  · exact ⟨hw.1, by rw [← wr_wrap]; exact hw.2 _ rfl⟩
  · exact hw.elim
theorem wpRem_ok {h : Hn} {k : IntKind} {a b : Int} {K : D → Prop} (hw : wpRem h k a b K) : b ≠ 0 ∧ K (.int k (a.tmod b)) := by
  unfold wpRem at hw
  split at hw
  · obtain ⟨h1, h2, h4⟩ := hw; exact ⟨by omega, by rw [Int.tmod_eq_emod_of_nonneg h1]; exact h4⟩
  · obtain ⟨h1, h2, h4⟩ := hw; exact ⟨by omega, by rw [Int.tmod_eq_emod_of_nonneg h1]; exact h4 _ rfl⟩
  · exact hw
  · exact ⟨hw.1, hw.2 _ rfl⟩
  · exact hw.elim
theorem wpName_ok {h : Hn} {k : IntKind} {x : Int} {K : D → Prop} (hw : wpName h k x K) : K (.int k x) := by
  unfold wpName at hw
  split at hw
  · exact hw _ rfl
  · exact hw _ rfl
  · exact hw
theorem fdiv_pow (a : Int) (n : Nat) : a.fdiv (2 ^ n) = a / 2 ^ n := Int.fdiv_eq_ediv_of_nonneg a (Int.pow_nonneg (by decide))
theorem wpNil_ok {P : Program} {op : BinOp} {t : TypeId} {x : D} {K : D → Prop} (hw : wpNil P op t x K) : ∃ v, nilBin P op t x = some v ∧ K v := by
  unfold wpNil at hw
  unfold nilBin
  split at hw
  · rename_i e hk
    rw [hk]
    simp only
    split at hw
    · simp only
      split at hw
      · rename_i f xs
        cases xs with
        | nil => exact absurd rfl hw.1
        | cons a as' => exact ⟨_, rfl, hw.2⟩
      · rename_i len _ _
        cases len with
        | zero => exact absurd hw.1 (by omega)
        | succ n => exact ⟨_, rfl, hw.2⟩
      · exact ⟨_, rfl, hw⟩
      · exact hw.elim
    · simp only
      split at hw
      · rename_i f xs
        cases xs with
        | nil => exact absurd rfl hw.1
        | cons a as' => exact ⟨_, rfl, hw.2⟩
      · rename_i len _ _
        cases len with
        | zero => exact absurd hw.1 (by omega)
        | succ n => exact ⟨_, rfl, hw.2⟩
      · exact ⟨_, rfl, hw⟩
      · exact hw.elim
    · exact hw.elim
  · exact hw.elim
theorem wpBin_ok {P : Program} {h : Hn} {op : BinOp} {t : TypeId} {x y : D} {K : D → Prop} (hw : wpBin P h op t x y K) : ∃ v, evBin P op t x y = some v ∧ K v := by
  unfold wpBin at hw
  split at hw
  · rename_i k a k' b
    split at hw
    · obtain ⟨h1, h2⟩ := onB_ok hw; have hk := of_decide_eq_true h1; subst hk; exact ⟨.int k (k.wrap (a + b)), by simp only [evBin, if_true, binInt], wpInt_ok h2⟩
    · obtain ⟨h1, h2⟩ := onB_ok hw; have hk := of_decide_eq_true h1; subst hk; exact ⟨.int k (k.wrap (a - b)), by simp only [evBin, if_true, binInt], wpInt_ok h2⟩
    · obtain ⟨h1, h2⟩ := onB_ok hw; have hk := of_decide_eq_true h1; subst hk; exact ⟨.int k (k.wrap (a * b)), by simp only [evBin, if_true, binInt], wpInt_ok h2⟩
    · obtain ⟨h1, h2⟩ := onB_ok hw
      obtain ⟨h3, h4⟩ := wpQuo_ok h2
      exact ⟨_, by simp only [evBin, of_decide_eq_true h1, if_true, binInt]; rw [if_neg h3], by rw [of_decide_eq_true h1] at h4; exact h4⟩
    · obtain ⟨h1, h2⟩ := onB_ok hw
      obtain ⟨h3, h4⟩ := wpRem_ok h2
      exact ⟨_, by simp only [evBin, of_decide_eq_true h1, if_true, binInt]; rw [if_neg h3], by rw [of_decide_eq_true h1] at h4; exact h4⟩
    · exact ⟨_, by simp only [evBin, shInt]; rw [if_neg (by omega)], by have := wpName_ok hw.2; unfold shlK at this; rw [wr_wrap] at this; exact this⟩
    · exact ⟨_, by simp only [evBin, shInt]; rw [if_neg (by omega), fdiv_pow]; rfl, wpName_ok hw.2⟩
    · obtain ⟨h1, h2⟩ := onB_ok hw; have hk := of_decide_eq_true h1; subst hk; exact ⟨.int k (andK k a b), by simp only [evBin, if_true, binInt, andK], wpName_ok h2⟩
    · obtain ⟨h1, h2⟩ := onB_ok hw; have hk := of_decide_eq_true h1; subst hk; exact ⟨.int k (orK k a b), by simp only [evBin, if_true, binInt, orK], wpName_ok h2⟩
    · obtain ⟨h1, h2⟩ := onB_ok hw; have hk := of_decide_eq_true h1; subst hk; exact ⟨.int k (xorK k a b), by simp only [evBin, if_true, binInt, xorK], wpName_ok h2⟩
    · exact onO_ok hw
  · rename_i a b
    split at hw
    · exact ⟨_, by simp only [evBin, binStr]; rw [if_pos hw.1], hw.2⟩
    · obtain ⟨v, h1, h2⟩ := onO_ok hw; exact ⟨v, h1, h2⟩
  · exact onO_ok hw

/-! ### lending -/
theorem lendLeafW_ok {σ : Store} {d : D} {K : D → List Nat → Prop} (h : lendLeafW σ d K) : K (lendLeaf σ d).1 (lendLeaf σ d).2 := by
  cases d with
  | ms id off len cap ex =>
    unfold lendLeafW at h
    simp only at h
    unfold lendLeaf
    split at h
    · rename_i ho
      simp only [ho]
      rw [if_pos ⟨h.1, h.2.1⟩]
      exact h.2.2
    · exact h.elim
  | _ => exact h
theorem lendLeavesW_ok {σ : Store} : ∀ {ds : List D} {K : List D → List Nat → Prop}, lendLeavesW σ ds K → K (ds.map fun d => (lendLeaf σ d).1) (ds.flatMap fun d => (lendLeaf σ d).2)
  | [], K, h => h
  | d :: ds, K, h => by
    unfold lendLeavesW at h
    have := lendLeavesW_ok (lendLeafW_ok h)
    simpa using this
theorem lendW_ok {σ : Store} {d : D} {K : D → List Nat → Prop} (h : lendW σ d K) : K (lend σ d).1 (lend σ d).2 := by
  cases d with
  | agg ds => exact lendLeavesW_ok h
  | _ => exact lendLeafW_ok h
theorem lendsW_ok {σ : Store} : ∀ {ds : List D} {K : List D → List Nat → Prop}, lendsW σ ds K → K (ds.map fun d => (lend σ d).1) (ds.flatMap fun d => (lend σ d).2)
  | [], K, h => h
  | d :: ds, K, h => by
    unfold lendsW at h
    have := lendsW_ok (lendW_ok h)
    simpa using this
theorem frzLeafW_ok {σ : Store} {d : D} {K : D → Prop} (h : frzLeafW σ d K) (b : Nat) : ∃ d', frzLeaf b σ d = some d' ∧ K d' := by
  cases d with
  | ms id off len cap ex =>
    unfold frzLeafW at h
    simp only at h
    split at h
    · rename_i ho
      obtain ⟨h1, h2, h3, h4⟩ := onB_ok h
      exact ⟨_, by unfold frzLeaf; simp only [ho]; rw [if_pos ⟨of_decide_eq_true h1, h2, h3⟩], h4⟩
    · exact h.elim
  | _ =>
    unfold frzLeafW at h
    simp only at h
    obtain ⟨h1, h2⟩ := onB_ok h
    exact ⟨_, by unfold frzLeaf; simp only; rw [if_pos h1], h2⟩
theorem frzLeavesW_ok {σ : Store} (b : Nat) : ∀ {ds : List D} {K : List D → Prop}, frzLeavesW σ ds K → ∃ ds', ds.mapM (frzLeaf b σ) = some ds' ∧ K ds'
  | [], K, h => ⟨[], rfl, h⟩
  | d :: ds, K, h => by
    unfold frzLeavesW at h
    obtain ⟨d', h1, h2⟩ := frzLeafW_ok h b
    obtain ⟨ds', h3, h4⟩ := frzLeavesW_ok b h2
    exact ⟨d' :: ds', by simp [List.mapM_cons, h1, h3], h4⟩
theorem frzValW_ok {σ : Store} {d : D} {K : D → Prop} (h : frzValW σ d K) (b : Nat) : ∃ d', frzVal b σ d = some d' ∧ K d' := by
  cases d with
  | agg ds =>
    obtain ⟨ds', h1, h2⟩ := frzLeavesW_ok b h
    exact ⟨.agg ds', by unfold frzVal; simp only [h1]; rfl, h2⟩
  | _ => simp only [frzValW] at h; simp only [frzVal]; exact frzLeafW_ok h b
theorem frzValsW_ok {σ : Store} (b : Nat) : ∀ {ds : List D} {K : List D → Prop}, frzValsW σ ds K → ∃ ds', ds.mapM (frzVal b σ) = some ds' ∧ K ds'
  | [], K, h => ⟨[], rfl, h⟩
  | d :: ds, K, h => by
    unfold frzValsW at h
    obtain ⟨d', h1, h2⟩ := frzValW_ok h b
    obtain ⟨ds', h3, h4⟩ := frzValsW_ok b h2
    exact ⟨d' :: ds', by simp [List.mapM_cons, h1, h3], h4⟩
theorem frzW_ok {σ : Store} {d : D} {K : D → Prop} (h : frzW σ d K) (b : Nat) : ∃ d', frz b σ d = some d' ∧ K d' := by
  cases d with
  | tup ds =>
    obtain ⟨ds', h1, h2⟩ := frzValsW_ok b h
    exact ⟨.tup ds', by unfold frz; simp only [h1]; rfl, h2⟩
  | _ => simp only [frzW] at h; simp only [frz]; exact frzValW_ok h b

/-! ### what callees are known to do -/
def DataFun (P : Program) (f : FuncId) (args : List D) (r : D) : Prop :=
  frz 0 [] r = some r ∧ ∀ (Γ0 : Ctx) (w : World) (vargs : Array Value), SR Γ0 [] w → R Γ0 w none args vargs.toList →
    Does P f vargs w fun x w' => ∃ v C', x = .returned v ∧ DataR C' w' r v ∧ Behind Γ0.C w C' w'
def RefFun (P : Program) (f : FuncId) (args : List D) (σ : Store) (r : D) (σ' : Store) : Prop :=
  ∀ (Γ : Ctx) (w : World) (vargs : Array Value), SR Γ σ w → R Γ w none args vargs.toList → Does P f vargs w (Post Γ σ w r σ')
structure SpecsOk (P : Program) (C : WCfg) : Prop where
  data : ∀ g as o, C.spec g as = some o → o.pre → DataFun P g as o.r
  ref : ∀ g as σ p r σ', C.byref g = true → C.bspec g as σ = some (p, r, σ') → p → RefFun P g as σ r σ'
  ro : ∀ g as σ p r σ', C.byref g = true → C.ro g = true → C.bspec g as σ = some (p, r, σ') → σ' = σ
open Classical in
noncomputable def runS (C : WCfg) : CallF := fun f args σ =>
  match C.byref f with
  | true => match C.bspec f args σ with
    | some (p, r, σ') => if p then some (r, σ') else none
    | none => none
  | false => match C.spec f args with
    | some o => if o.pre ∧ σ = [] then some (o.r, []) else none
    | none => none
noncomputable abbrev CS (C : WCfg) : CallF := callD C.M (runS C)
theorem callS_ok {P : Program} {C : WCfg} (hC : SpecsOk P C) : CallOk P (CS C) := by
  intro f args σ r σ' Γ w vargs h hs hargs
  unfold CS callD at h
  have hp : C.M.prim f = none := rfl
  simp only [hp] at h
  cases hb : C.M.byref f with
  | true =>
    simp only [hb, if_true] at h
    obtain ⟨σ1, h', hσ⟩ : ∃ σ1, runS C f args σ = some (r, σ1) ∧ (σ' = σ1 ∨ (C.ro f = true ∧ σ' = σ)) := by
      split at h
      · rename_i hro
        obtain ⟨q, hq, he⟩ := Option.bind_eq_some_iff.1 h
        obtain ⟨h1, h2, _⟩ := roEnd_some he
        subst h1 h2
        exact ⟨q.2, hq, .inr ⟨hro, rfl⟩⟩
      · exact ⟨σ', h, .inl rfl⟩
    clear h
    unfold runS at h'
    rw [show C.byref f = true from hb] at h'
    simp only at h'
    split at h'
    · rename_i p r1 σ2 hsp
      split at h'
      · rename_i hpp
        injection h' with h'; injection h' with h1 h2; subst h1 h2
        rcases hσ with rfl | ⟨hro, rfl⟩
        · exact hC.ref _ _ _ _ _ _ hb hsp hpp Γ w vargs hs hargs
        · have := hC.ro _ _ _ _ _ _ hb hro hsp
          subst this
          exact hC.ref _ _ _ _ _ _ hb hsp hpp Γ w vargs hs hargs
      · cases h'
    · cases h'
  | false =>
    simp only [hb, Bool.false_eq_true, if_false] at h
    have hl := lends_rows (σ := σ) (ds := args)
    have hag : Agree Γ { Γ with C := fun b => Γ.C b ∨ ∃ id ∈ args.flatMap fun d => (lend σ d).2, Γ.ρ id = b } := ⟨fun b hb => .inl hb, fun _ h => h, fun _ _ => rfl, fun _ _ => rfl, fun _ _ => rfl⟩
    have hargs' := lends_ok hs hag hargs fun id hid => .inr ⟨id, hid, rfl⟩
    obtain ⟨hs1, hno1⟩ := hs.shut hl (C := fun b => Γ.C b ∨ ∃ id ∈ args.flatMap fun d => (lend σ d).2, Γ.ρ id = b) fun b => Iff.rfl
    have fin : ∀ {bs : Nat} {r0 r' : D} {τ τ0 : Store}, (∃ Γ1 : Ctx, SR Γ1 [] w ∧ R Γ1 w none (args.map fun d => (lend σ d).1) vargs.toList ∧ Γ1.C = fun b => Γ.C b ∨ ∃ id ∈ args.flatMap fun d => (lend σ d).2, Γ.ρ id = b) →
        runS C f (args.map fun d => (lend σ d).1) τ0 = some (r0, τ) → frz bs τ r0 = some r' → (σ.behind (args.flatMap fun d => (lend σ d).2) r').map (fun s => (r', s)) = some (r, σ') → Does P f vargs w (Post Γ σ w r σ') := by
      rintro bs r0 r' τ τ0 ⟨Γ1, g1, g2, g3⟩ hr hf h
      unfold runS at hr
      rw [show C.byref f = false from hb] at hr
      simp only at hr
      split at hr
      case h_2 => cases hr
      rename_i o ho
      split at hr
      case isFalse => cases hr
      rename_i hpre
      injection hr with hr; injection hr with e1 e2; subst e1 e2
      obtain ⟨k0, kk⟩ := hC.data _ _ _ ho hpre.1
      have hrr : r' = o.r := by
        have hx : ∀ b, frz b [] o.r = frz 0 [] o.r := by
          intro b
          have l1 : ∀ d, frzLeaf b [] d = frzLeaf 0 [] d := fun d => rfl
          have l2 : ∀ d, frzVal b [] d = frzVal 0 [] d := fun d => rfl
          rfl
        rw [hx, k0] at hf
        injection hf with hf; exact hf.symm
      subst hrr
      obtain ⟨s, hbh, he⟩ := Option.map_eq_some_iff.1 h
      injection he with he1 he2
      subst he1 he2
      refine (kk Γ1 w vargs g1 g2).mono fun x w' hp => ?_
      obtain ⟨v, C', rfl, hd, hbe⟩ := hp
      rw [g3] at hbe
      exact back_ok hs hl (fun b => Iff.rfl) hbe hd hbh
    split at h
    · rename_i hfree
      split at h
      · rename_i r0 τ hr
        split at h
        · rename_i r' hf
          refine fin ⟨{ Γ with C := fun b => Γ.C b ∨ ∃ id ∈ args.flatMap fun d => (lend σ d).2, Γ.ρ id = b, A := fun _ => False }, ?_, ?_, rfl⟩ hr hf h
          · exact ⟨fun id st esz xs h => by simp [Store.obj] at h, fun id st kvs h => by simp [Store.obj] at h, fun id id' o o' h => by simp [Store.obj] at h, fun id o h => by simp [Store.obj] at h, hs1.old, fun id h => h.elim⟩
          · exact hargs'.free (fun b hb => by exact hb) (fun _ _ => rfl) hfree
        · cases h
      · cases h
    · cases h

/-! ### operations -/
section
variable {P : Program} {C : WCfg} {o : Oper} {e : Env} {L : Lits} {aid : Nat} {σ : Store} {K : KOp}
theorem askW_ok {h : Hn} {d : Nat} {b : Bool} {Kb : Bool → Env → Lits → Prop} (he : e d = .bool b) (h : askW h e L d b Kb) : ∃ L', Kb b e L' := by
  unfold askW at h
  split at h
  · cases b <;> exact ⟨_, h⟩
  have hp : ∀ x, b = x → e.put d (.bool x) = e := by
    intro x hx
    funext i
    unfold Env.put
    split
    · rename_i hi; rw [hi, he, hx]
    · rfl
  split at h
  · obtain ⟨h1, h2⟩ := h; rw [hp true h1] at h2; subst h1; exact ⟨_, h2⟩
  · obtain ⟨h1, h2⟩ := h; rw [hp false h1] at h2; subst h1; exact ⟨_, h2⟩
  · cases b <;> exact ⟨_, h⟩
  · have hp : ∀ x, b = x → e.put d (.bool x) = e := by
      intro x hx
      funext i
      unfold Env.put
      split
      · rename_i hi; rw [hi, he, hx]
      · rfl
    cases b with
    | true => have := h.1 rfl; rw [hp true rfl] at this; exact ⟨_, this⟩
    | false => have := h.2 rfl; rw [hp false rfl] at this; exact ⟨_, this⟩
def OpGo (P : Program) (C : WCfg) (o : Oper) (e : Env) (aid : Nat) (σ : Store) (K : KOp) : Prop :=
  ∃ v i σ' f L', step P (CS C) o e aid σ = some (v, σ', f) ∧ K e L' v i σ' f
theorem OpGo.of (hg : isGo o = false) {v : D} {i : Inf} {σ' : Store} {f : Foot} {L' : Lits} (h : evOp P o e aid σ = some (v, σ', f)) (hk : K e L' v i σ' f) : OpGo P C o e aid σ K :=
  ⟨v, i, σ', f, L', by rw [step_other hg]; exact h, hk⟩
theorem genW_ok (hg : isGo o = false) {i : Inf} (h : genW P o e L aid σ i K) : OpGo P C o e aid σ K := by
  unfold genW at h
  split at h
  · rename_i v σ' f hh; exact .of hg hh h
  · exact h.elim
theorem loadW_ok {t : TypeId} {a : D} {i : Inf} {Kl : D → Foot → Prop} (h : loadW P C t a i σ Kl) : ∃ v f, evLoad (ti P t) a σ = some (v, f) ∧ Kl v f := by
  have gen : onO (evLoad (ti P t) a σ) (fun r => Kl r.1 r.2) → ∃ v f, evLoad (ti P t) a σ = some (v, f) ∧ Kl v f := by
    intro h; obtain ⟨⟨v, f⟩, h1, h2⟩ := onO_ok h; exact ⟨v, f, h1, h2⟩
  unfold loadW at h
  split at h
  · split at h
    · split at h
      · rename_i ho
        split at h
        · obtain ⟨x, h1, h2⟩ := h
          obtain ⟨v, h3, h4⟩ := onO_ok h2
          exact ⟨v, _, by unfold evLoad; simp only [ho, h1, h3]; rfl, h4⟩
        · exact h.elim
      · exact h.elim
    · exact gen h
  · split at h
    · split at h
      · rename_i ho
        split at h
        · rename_i ds cd hx _
          obtain ⟨x, h1, h2⟩ := h
          obtain ⟨h3, h4⟩ := onB_ok h2
          obtain ⟨k1, k2, k3⟩ := of_decide_eq_true h3
          refine ⟨_, _, ?_, h4⟩
          unfold evLoad
          simp only [ho, hx]
          unfold sub
          rw [if_neg (by rw [k1]; decide), if_neg (by rw [k2]; rintro ⟨_, h, _⟩; cases h), k2]
          simp only [Bool.false_eq_true, if_false, k3, if_true, D.cells, h1]
          rfl
        · exact h.elim
      · exact h.elim
    · exact h.elim
  · exact gen h
theorem storeW_ok {t : TypeId} {a v : D} {i : Inf} {Kl : Store → Foot → Prop} (h : storeW P C t a v i σ Kl) : ∃ s f, evStore (ti P t) a v σ = some (s, f) ∧ Kl s f := by
  have gen : onO (evStore (ti P t) a v σ) (fun r => Kl r.1 r.2) → ∃ s f, evStore (ti P t) a v σ = some (s, f) ∧ Kl s f := by
    intro h; obtain ⟨⟨v, f⟩, h1, h2⟩ := onO_ok h; exact ⟨v, f, h1, h2⟩
  unfold storeW at h
  split at h
  · split at h
    · split at h
      · rename_i ho
        split at h
        · obtain ⟨x, h1, h2⟩ := h
          obtain ⟨h3, h4⟩ := onB_ok h2
          obtain ⟨x', h5, h6⟩ := onO_ok h4
          exact ⟨_, _, by unfold evStore; simp only [ho, h1, h3, if_true, h5]; rfl, h6⟩
        · exact h.elim
      · exact h.elim
    · exact gen h
  · split at h
    · split at h
      · rename_i ho
        split at h
        · rename_i ds hx
          obtain ⟨h1, h2⟩ := h
          obtain ⟨h3, h4⟩ := onB_ok h2
          rw [Bool.and_eq_true, Bool.not_eq_true'] at h3
          refine ⟨_, _, ?_, h4⟩
          unfold evStore
          simp only [ho, hx, h3.1, if_true]
          unfold upd
          rw [if_neg (by rw [h3.2]; rintro ⟨_, h, _⟩; cases h)]
          simp only [cells_flat h3.2, List.length_singleton]
          rw [if_pos (by omega)]
          rfl
        · exact h.elim
      · exact h.elim
    · exact h.elim
  · exact gen h
theorem idxW_ok {t : TypeId} {x ix : D} {Kl : D → Inf → Foot → Prop} (h : idxW P C t x ix σ Kl) : ∃ v i f, evIndexAddr P t x ix σ = some (v, f) ∧ Kl v i f := by
  unfold idxW at h
  split at h
  · rename_i hk
    split at h
    · obtain ⟨y, h1, h2, h3⟩ := h
      obtain ⟨h4, h5⟩ := onB_ok h3
      have h4 := of_decide_eq_true h4
      exact ⟨_, _, _, by unfold evIndexAddr; simp only [hk, h1, h2, if_true, h4, and_self], h5⟩
    · exact h.elim
  · rename_i hk
    obtain ⟨h1, h2, h3⟩ := h
    obtain ⟨h4, h5⟩ := onB_ok h3
    have h4 := of_decide_eq_true h4
    exact ⟨_, _, _, by unfold evIndexAddr; simp only [hk]; rw [if_pos ⟨h1, h2, h4⟩], h5⟩
  · rename_i hk
    obtain ⟨h1, h2, h3⟩ := h
    obtain ⟨h4, h5⟩ := onB_ok h3
    have h4 := of_decide_eq_true h4
    exact ⟨_, _, _, by unfold evIndexAddr; simp only [hk]; rw [if_pos ⟨h1, h2, h4⟩], h5⟩
  · obtain ⟨⟨v, f⟩, h1, h2⟩ := onO_ok h
    exact ⟨v, _, f, h1, h2⟩
theorem bnd_none (n : Nat) : bnd n none = some n := rfl
theorem bndW_ok {n : Nat} {b : Option D} {Kl : Nat → Prop} (h : bndW n b Kl) : ∃ k, bnd n b = some k ∧ Kl k := by
  unfold bndW at h
  split at h
  · exact ⟨_, rfl, h⟩
  · exact ⟨_, by unfold bnd; simp only; rw [if_pos h.1], h.2⟩
  · exact h.elim
theorem sliceW_ok {t : TypeId} {x : D} {lo hi mx : Option D} {Kl : D → Foot → Prop} (h : sliceW P t x lo hi mx σ Kl) : ∃ v f, evSlice P t x lo hi mx σ = some (v, f) ∧ Kl v f := by
  unfold sliceW at h
  split at h
  · rename_i hk
    split at h
    · obtain ⟨a, h1, h2⟩ := bndW_ok h
      obtain ⟨b, h3, h4⟩ := bndW_ok h2
      obtain ⟨h5, h6, h7⟩ := h4
      exact ⟨_, _, by unfold evSlice; simp only [hk, h1, h3, Option.isSome_none, Bool.false_eq_true, if_false]; rw [if_pos ⟨h5, h6⟩], h7⟩
    · exact h.elim
  · rename_i hk
    split at h
    · obtain ⟨a, h1, h2⟩ := bndW_ok h
      obtain ⟨b, h3, h4⟩ := bndW_ok h2
      obtain ⟨h5, h6, h7, h8⟩ := h4
      obtain ⟨h9, h10⟩ := onB_ok h8
      exact ⟨_, _, by unfold evSlice; simp only [hk, h1, h3, bnd_none, Option.isSome_none, Bool.false_eq_true, false_implies, if_false]; rw [if_pos ⟨h5, h6, Nat.le_refl _, trivial, of_decide_eq_true h9, h7⟩], h10⟩
    · exact h.elim
  · rename_i hk
    split at h
    · obtain ⟨a, h1, h2⟩ := bndW_ok h
      obtain ⟨b, h3, h4⟩ := bndW_ok h2
      obtain ⟨h5, h6, h8⟩ := h4
      obtain ⟨h9, h10⟩ := onB_ok h8
      have h9 := of_decide_eq_true h9
      exact ⟨_, _, by unfold evSlice; simp only [hk, h1, h3, bnd_none, Option.isSome_none, Bool.false_eq_true, false_implies, Bool.or_false]; rw [if_pos ⟨h5, h6, Nat.le_refl _, trivial, h9.1, h9.2⟩], h10⟩
    · exact h.elim
  · obtain ⟨⟨v, f⟩, h1, h2⟩ := onO_ok h
    exact ⟨v, f, h1, h2⟩
theorem makeW_ok {t : TypeId} {l c : D} {Kl : D → Store → Foot → Prop} (h : makeW P t l c aid σ Kl) : ∃ v s f, evMakeSlice P t l c aid σ = some (v, s, f) ∧ Kl v s f := by
  unfold makeW at h
  split at h
  · rename_i hk
    obtain ⟨h1, h2, h3, h4, h5⟩ := h
    obtain ⟨h6, h7⟩ := onB_ok h5
    have h6 := of_decide_eq_true h6
    exact ⟨_, _, _, by unfold evMakeSlice; simp only [hk]; rw [if_pos ⟨h1, h2, h3, h4, h6.1, h6.2.1, h6.2.2⟩], h7⟩
  · exact h.elim
theorem elemsW_ok {d : D} {Kl : List D → Prop} (h : elemsW σ d Kl) : ∃ xs f, elems σ d = some (xs, f) ∧ Kl xs := by
  unfold elemsW at h
  split at h
  · exact ⟨_, _, rfl, h⟩
  · exact ⟨_, _, rfl, h⟩
  · split at h
    · rename_i ho
      exact ⟨_, _, by unfold elems; simp only [ho]; rw [if_pos h.1], h.2⟩
    · exact h.elim
  · exact h.elim
theorem okEl_all {n : Nat} {xs : List D} : xs.all (okEl n) = xs.all (fun y => y.elem && y.cells.length == n) := rfl
theorem appMsW_ok {t : TypeId} {et : TypeId} (hk : (ti P t).k = .sl et) (hz : 0 < (ti P et).sz ∧ (ti P et).zero.elem = true ∧ (ti P et).zero.cells.length = (ti P et).sz) {x : D} {news : List D} {ft : Foot} (hx : elems σ x = some (news, ft)) (hall : news.all (okEl (ti P et).sz) = true)
    {id off len cap : Nat} {ex lit : Bool} {Kl : D → Store → Foot → Prop} {hn : Hn} (h : appMsW hn (ti P et).bytes (ti P et).sz id off len cap ex lit news (rowIds x) aid σ Kl) : ∃ v s f, evAppend P t (.ms id off len cap ex) x aid σ = some (v, s, f) ∧ Kl v s f := by
  unfold appMsW at h
  split at h
  · rename_i esz xs ho
    obtain ⟨h1, h2, h3, h4⟩ := h
    obtain ⟨h5, h6⟩ := onB_ok h4
    have h5 := of_decide_eq_true h5
    have hin : len + news.length ≤ cap → evAppend P t (.ms id off len cap ex) x aid σ = some (.ms id off (len + news.length) cap ex, σ.put id (some (.row .own esz (xs.take (off + len) ++ news ++ xs.drop (off + len + news.length)))), .app (id :: rowIds x) [id]) := by
      intro hle
      unfold evAppend
      simp only [hk]
      rw [if_pos hz]
      simp only [hx]
      rw [← okEl_all, hall]
      simp only [if_true, ho]
      rw [if_pos ⟨h5, h1, h2, h3⟩, if_pos hle]
    have hgx : cap < len + news.length → ex = true → evAppend P t (.ms id off len cap ex) x aid σ = some (.ms aid 0 (len + news.length) (len + news.length) false, σ.put aid (some (.row .own esz ((xs.drop off).take len ++ news))), .app (id :: rowIds x) [aid]) := by
      intro hlt h0
      unfold evAppend
      simp only [hk]
      rw [if_pos hz]
      simp only [hx]
      rw [← okEl_all, hall]
      simp only [if_true, ho]
      rw [if_pos ⟨h5, h1, h2, h3⟩, if_neg (by omega), if_pos h0]
    have hgr : cap < len + news.length → ex = false → off = 0 → evAppend P t (.ms id off len cap ex) x aid σ = some (.ms aid 0 (len + news.length) (len + news.length) false, (σ.put id Option.none).put aid (some (.row .own esz (xs.take len ++ news))), .app (id :: rowIds x) [id, aid]) := by
      intro hlt hex h0
      unfold evAppend
      simp only [hk]
      rw [if_pos hz]
      simp only [hx]
      rw [← okEl_all, hall]
      simp only [if_true, ho]
      rw [if_pos ⟨h5, h1, h2, h3⟩, if_neg (by omega), if_neg (by simp [hex]), if_pos h0]
    split at h6
    · exact ⟨_, _, _, hin h6.1, h6.2⟩
    · obtain ⟨hc, h7⟩ := h6
      split at h7
      · exact ⟨_, _, _, hgx hc rfl, h7⟩
      · exact ⟨_, _, _, hgr hc rfl h7.1, h7.2⟩
    split at h6
    · rcases Nat.lt_or_ge cap (len + news.length) with hc | hc
      · have h7 := h6.2 hc
        split at h7
        · exact ⟨_, _, _, hgx hc rfl, h7⟩
        · exact ⟨_, _, _, hgr hc rfl h7.1, h7.2⟩
      · exact ⟨_, _, _, hin hc, h6.1 hc⟩
    · rename_i hxl
      exact ⟨_, _, _, hgr h6.1 (by cases ex <;> simp_all) h6.2.1, h6.2.2⟩
  · exact h.elim
theorem appZW_ok {t : TypeId} {et : TypeId} (hk : (ti P t).k = .sl et) {s : D} {n : Int} {Kl : D → Store → Prop} (h : appZW P et s n aid σ Kl) : ∃ v s', evAppendZ P t s n aid σ = some (v, s', .wrAll) ∧ Kl v s' := by
  unfold appZW at h
  simp only at h
  split at h
  · rename_i id off len cap ex
    split at h
    · split at h
      · rename_i st esz xs ho
        obtain ⟨h1, h2, h3, h4, h5⟩ := onB_ok h
        have h1 := of_decide_eq_true h1
        refine ⟨_, _, ?_, h5⟩
        unfold evAppendZ
        simp only [hk, ho]
        rw [if_pos ⟨h1, h2, h3, h4⟩]
      · exact h.elim
    · exact h.elim
  · rename_i full xs
    split at h
    · obtain ⟨h1, h2, h3, h4, h5⟩ := onB_ok h
      have h1 := of_decide_eq_true h1
      refine ⟨_, _, ?_, h5⟩
      unfold evAppendZ
      simp only [hk]
      rw [if_pos ⟨h1, h2, h3, h4⟩]
    · exact h.elim
  · exact h.elim
theorem appSlW_ok {t : TypeId} {et : TypeId} (hk : (ti P t).k = .sl et) (hz : 0 < (ti P et).sz ∧ (ti P et).zero.elem = true ∧ (ti P et).zero.cells.length = (ti P et).sz) {x : D} {news : List D} {ft : Foot} (hx : elems σ x = some (news, ft)) (hall : news.all (okEl (ti P et).sz) = true)
    {full : Bool} {xs : List D} {Kl : D → Store → Foot → Prop} {hn : Hn} (h : appSlW hn (ti P et).bytes (ti P et).sz full xs news (rowIds x) aid σ Kl) : ∃ v s f, evAppend P t (.sl full xs) x aid σ = some (v, s, f) ∧ Kl v s f := by
  replace h : (news = [] → Kl (.sl full xs) σ (.app (rowIds x) [])) ∧ (news ≠ [] → full = true ∧ xs.all (okEl (ti P et).sz) = true ∧ (xs.length + news.length) * max (ti P et).bytes 1 ≤ 140737488355328 ∧
      Kl (.ms aid 0 (xs.length + news.length) (xs.length + news.length) false) (σ.put aid (some (.row .own (ti P et).sz (xs ++ news)))) (.app (rowIds x) [aid])) := by
    unfold appSlW at h
    split at h
    · exact ⟨fun _ => h.2, fun hne => absurd h.1 hne⟩
    · exact ⟨fun he => absurd he h.1, fun _ => h.2⟩
    · exact h
  by_cases hn : news = []
  · refine ⟨_, _, _, ?_, h.1 hn⟩
    unfold evAppend
    simp only [hk]
    rw [if_pos hz]
    simp only [hx]
    rw [← okEl_all, hall]
    simp only [if_true]
    rw [if_pos hn]
  · obtain ⟨h1, h2, h3, h4⟩ := h.2 hn
    refine ⟨_, _, _, ?_, h4⟩
    unfold evAppend
    simp only [hk]
    rw [if_pos hz]
    simp only [hx]
    rw [← okEl_all, hall]
    simp only [if_true]
    rw [if_neg hn, if_pos ⟨h1, by rw [← okEl_all]; exact h2, h3⟩]
theorem callW_ok (hC : SpecsOk P C) {c : Call} (ho : o.op = .call c) (h : callW P C o e L aid σ c K) : OpGo P C o e aid σ K := by
  obtain ⟨dst, op, type, pos, after, guard⟩ := o
  simp only at ho
  subst ho
  obtain ⟨callee, args, ats⟩ := c
  have ngo : ∀ b, callee = .builtin b → isGo (⟨dst, .call ⟨callee, args, ats⟩, type, pos, after, guard⟩ : Oper) = false := by rintro b rfl; rfl
  unfold callW at h
  split at h
  · rename_i f hce
    simp only at hce
    subst hce
    split at h
    · rename_i g as hev
      have hstep : ∀ {r σ'}, CS C g as σ = some (r, σ') → step P (CS C) (⟨dst, .call ⟨.value f, args, ats⟩, type, pos, after, guard⟩ : Oper) e aid σ = some (r, σ', .call (as.flatMap fun d => (lend σ d).2)) := by
        intro r σ' hr
        rw [step_go rfl, hev]
        simp only [hr]
      split at h
      · rename_i hb
        split at h
        · rename_i p r σ' hsp
          refine ⟨r, .no, σ', .call (as.flatMap fun d => (lend σ d).2), L, hstep ?_, h.2⟩
          unfold CS callD
          have hp : C.M.prim g = none := rfl
          simp only [hp, show C.M.byref g = true from hb, if_true]
          have hrun : runS C g as σ = some (r, σ') := by
            unfold runS
            rw [hb]
            simp only [hsp]
            rw [if_pos h.1]
          rw [hrun]
          split
          · rename_i hro
            rw [hC.ro _ _ _ _ _ _ hb hro hsp]; rfl
          · rfl
        · exact h.elim
      · rename_i hb
        have h := lendsW_ok h
        obtain ⟨hfree, h⟩ := onB_ok h
        split at h
        · rename_i oo hsp
          obtain ⟨hpre, h⟩ := h
          obtain ⟨σ', h1, h2⟩ := onO_ok h
          refine ⟨oo.r, .no, σ', .call (as.flatMap fun d => (lend σ d).2), L, hstep ?_, h2⟩
          unfold CS callD
          have hp : C.M.prim g = none := rfl
          simp only [hp, show C.M.byref g = false from hb, Bool.false_eq_true, if_false, hfree, if_true]
          have hrun : runS C g (as.map fun d => (lend σ d).1) [] = some (oo.r, []) := by
            unfold runS
            rw [hb]
            simp only [hsp]
            rw [if_pos ⟨hpre, rfl⟩]
          simp only [hrun, (hC.data _ _ _ hsp hpre).1, h1]
          rfl
        · exact h.elim
    · exact h.elim
  · rename_i hce
    simp only at hce
    have hg := ngo _ hce
    subst hce
    split at h
    · rename_i t t2 s x ht ha
      simp only at ht ha
      unfold appendW at h
      split at h
      · rename_i e2 et hk2 hk
        simp only at h
        obtain ⟨hz, h⟩ := onB_ok h
        have hz := of_decide_eq_true hz
        have hev : evOp P (⟨dst, .call ⟨.builtin .append, args, ats⟩, type, pos, after, guard⟩ : Oper) e aid σ = evAppend P t (opnd e s) (opnd e x) aid σ := by
          simp only [evOp, evBuiltin, ht, ha, List.map_cons, List.map_nil, hk2]
        split at h
        · rename_i hs _
          obtain ⟨⟨nw, ft⟩, h1, h2⟩ := onO_ok h
          obtain ⟨h3, h4⟩ := onB_ok h2
          obtain ⟨v, s', f5, h5, h6⟩ := appMsW_ok hk hz h1 h3 h4
          rw [← hs] at h5
          exact .of hg (by rw [hev]; exact h5) h6
        · rename_i hs _
          obtain ⟨news, ft, h1, h2⟩ := elemsW_ok h
          obtain ⟨v, s', f5, h5, h6⟩ := appMsW_ok hk hz h1 h2.1 h2.2
          rw [← hs] at h5
          exact .of hg (by rw [hev]; exact h5) h6
        · rename_i hs _
          obtain ⟨news, ft, h1, h2⟩ := elemsW_ok h
          obtain ⟨v, s', f5, h5, h6⟩ := appSlW_ok hk hz h1 h2.1 h2.2
          rw [← hs] at h5
          exact .of hg (by rw [hev]; exact h5) h6
        · obtain ⟨⟨v, s', f⟩, h1, h2⟩ := onO_ok h
          exact .of hg h1 h2
      · rename_i kn et hk2 hk
        split at h
        · rename_i kq n hx
          obtain ⟨v, s', h5, h6⟩ := appZW_ok hk h
          refine .of hg ?_ h6
          simp only [evOp, evBuiltin, ht, ha, List.map_cons, List.map_nil, hk2, hx]
          exact h5
        · exact h.elim
      · exact h.elim
    · exact h.elim
  · rename_i hce
    simp only at hce
    have hg := ngo _ hce
    subst hce
    split at h
    · rename_i t t2 s x ht ha
      simp only at ht ha
      unfold copyW at h
      split at h
      · rename_i et id off len cap ex hk hs
        obtain ⟨news, ft, h1, h2⟩ := elemsW_ok h
        split at h2
        · rename_i esz xs ho
          obtain ⟨h3, h4, h5, h6⟩ := onB_ok h2
          refine .of hg ?_ h6
          simp only [evOp, evBuiltin, ht, ha, List.map_cons, List.map_nil, hs]
          unfold evCopy
          simp only [hk, h1, ho]
          rw [if_pos ⟨of_decide_eq_true h3, h4, by rw [← okEl_all]; exact h5⟩]
        · exact h2.elim
      · exact h.elim
    · exact h.elim
  · rename_i hce
    simp only at hce
    have hg := ngo _ hce
    subst hce
    split at h
    · rename_i t s ht ha
      simp only at ht ha
      unfold clearW at h
      split at h
      · rename_i et id off len cap ex hk hs
        split at h
        · rename_i esz xs ho
          obtain ⟨h3, h4, h5⟩ := onB_ok h
          have h3 := of_decide_eq_true h3
          refine .of hg ?_ h5
          simp only [evOp, evBuiltin, ht, ha, List.map_cons, List.map_nil, hs]
          unfold evClear
          simp only [hk, ho]
          rw [if_pos ⟨h3.1, h4, h3.2.1, h3.2.2⟩]
        · exact h.elim
      · exact h.elim
    · exact h.elim
  · rename_i h1 h2 h3 h4
    refine genW_ok ?_ h
    unfold isGo
    split
    · rename_i heq
      injection heq with heq
      injection heq with e1
      exact absurd e1 (h1 _)
    · rfl
theorem wpOp1_ok (hC : SpecsOk P C) (h : wpOp1 P C o e L aid σ K) : OpGo P C o e aid σ K := by
  unfold wpOp1 at h
  split at h
  · rename_i x ho; exact .of (by unfold isGo; rw [ho]) (by unfold evOp; rw [ho]) h
  · rename_i x ho; exact .of (by unfold isGo; rw [ho]) (by unfold evOp; rw [ho]) h
  · rename_i c a b ho
    split at h
    · rename_i d
      split at h
      · rename_i t hc
        obtain ⟨L', h1⟩ := askW_ok hc h
        cases t with
        | true => exact .of (by unfold isGo; rw [ho]) (by unfold evOp; rw [ho]; simp only [opnd, hc]; rfl) h1
        | false => exact .of (by unfold isGo; rw [ho]) (by unfold evOp; rw [ho]; simp only [opnd, hc]; rfl) h1
      · exact h.elim
    · exact genW_ok (by unfold isGo; rw [ho]) h
  · rename_i op t x y ty ho
    split at h
    · rename_i hn
      obtain ⟨v, h1, h2⟩ := wpNil_ok h
      exact .of (by unfold isGo; rw [ho]) (by unfold evOp; rw [ho]; simp only [evBinO, hn, h1]; rfl) h2
    · rename_i hn
      obtain ⟨v, h1, h2⟩ := wpBin_ok h
      exact .of (by unfold isGo; rw [ho]) (by unfold evOp; rw [ho]; simp only [evBinO, hn, h1]; rfl) h2
  · rename_i ho; exact genW_ok (by unfold isGo; rw [ho]) h
  · rename_i s t x ho
    split at h
    · rename_i k k' n hk hx
      obtain ⟨h1, h2⟩ := onB_ok h
      exact .of (by unfold isGo; rw [ho]) (by unfold evOp; rw [ho]; simp only [evConv, hk, hx, h1]; rfl) (wpInt_ok h2)
    · exact genW_ok (by unfold isGo; rw [ho]) h
  · rename_i t a ho
    obtain ⟨v, f, h1, h2⟩ := loadW_ok h
    exact .of (by unfold isGo; rw [ho]) (by unfold evOp; rw [ho]; simp only [h1]; rfl) h2
  · rename_i t a x ho
    obtain ⟨v, f, h1, h2⟩ := storeW_ok h
    exact .of (by unfold isGo; rw [ho]) (by unfold evOp; rw [ho]; simp only [h1]; rfl) h2
  · rename_i t x ix ho
    obtain ⟨v, i, f, h1, h2⟩ := idxW_ok h
    exact .of (by unfold isGo; rw [ho]) (by unfold evOp; rw [ho]; simp only [h1]; rfl) h2
  · rename_i t x ix ho
    split at h
    · rename_i s k n hk hx hi
      obtain ⟨b, h1, h2, h3⟩ := h
      exact .of (by unfold isGo; rw [ho]) (by unfold evOp; rw [ho]; simp only [evIndex, hk, hx, hi, h1, h2, if_true]; rfl) h3
    · exact genW_ok (by unfold isGo; rw [ho]) h
  · rename_i x ix ho
    have same : ∀ v s f, evOp P o e aid σ = some (v, s, f) → s = σ ∧ f = .none := by
      intro v s f hh
      unfold evOp at hh
      rw [ho] at hh
      simp only at hh
      split at hh
      · split at hh
        · injection hh with hh; injection hh with _ hh; injection hh with h1 h2; exact ⟨h1.symm, h2.symm⟩
        · cases hh
      · cases hh
    split at h
    · rename_i k n s f hh
      obtain ⟨rfl, rfl⟩ := same _ _ _ hh
      exact .of (by unfold isGo; rw [ho]) hh (wpName_ok h)
    · rename_i v s f _ hh
      obtain ⟨rfl, rfl⟩ := same _ _ _ hh
      exact .of (by unfold isGo; rw [ho]) hh h
    · exact h.elim
  · rename_i ho; exact genW_ok (by unfold isGo; rw [ho]) h
  · rename_i ho; exact genW_ok (by unfold isGo; rw [ho]) h
  · rename_i t l c ho
    obtain ⟨v, s, f, h1, h2⟩ := makeW_ok h
    exact .of (by unfold isGo; rw [ho]) (by unfold evOp; rw [ho]; exact h1) h2
  · rename_i t x lo hi mx ho
    obtain ⟨v, f, h1, h2⟩ := sliceW_ok h
    exact .of (by unfold isGo; rw [ho]) (by unfold evOp; rw [ho]; simp only [h1]; rfl) h2
  · rename_i c ho; exact callW_ok hC ho h
  · rename_i ho
    refine genW_ok ?_ h
    unfold isGo
    split
    · rename_i heq; exact absurd heq (by intro hh; first | exact ho _ hh | simp_all)
    · rfl
theorem wpOp_ok (hC : SpecsOk P C) (h : wpOp P C o e L aid σ K) : OpGo P C o e aid σ K := by
  unfold wpOp at h
  split at h
  · rename_i hg
    rw [Bool.and_eq_true] at hg
    refine genW_ok ?_ h
    have := hg.2
    unfold notGo at this
    unfold isGo
    obtain ⟨dst, op, type, pos, after, guard⟩ := o
    simp only at this ⊢
    cases op with
    | call c =>
      obtain ⟨callee, as, ats⟩ := c
      cases callee <;> first | rfl | (cases this)
    | _ => rfl
  · exact wpOp1_ok hC h
end
end Go.Proofs.Ytfclelafcdcilaa.Dv
/- What is computed from a function's code holds of its calls. -/
set_option linter.unusedVariables false
set_option linter.unusedSimpArgs false
namespace Go.Proofs.Ytfclelafcdcilaa.Dv
open Go
section
variable {P : Program} {C : WCfg}
theorem wantsW_ok {ops : Array Oper} {e : Env} {L : Lits} {o : Oper} {K : Bool → Env → Lits → Prop} (h : wantsW C ops e L o K) : ∃ b L', wants ops e o = some b ∧ K b e L' := by
  unfold wantsW at h
  unfold wants
  split at h
  · rename_i hg; exact ⟨true, L, by rw [hg], h⟩
  · rename_i g want hg
    rw [hg]
    simp only
    split at h
    · rename_i d hd
      rw [hd]
      simp only
      split at h
      · rename_i b hb
        obtain ⟨L', h1⟩ := askW_ok hb h
        rw [hb]
        simp only
        refine ⟨b == want, L', rfl, ?_⟩
        cases hbw : (b == want) with
        | true => rw [hbw] at h1; exact h1
        | false => rw [hbw] at h1; exact h1
      · rename_i hb; exact ⟨false, L, by rw [hb], h⟩
      · exact h.elim
    · exact h.elim
theorem wpL_ok (hC : SpecsOk P C) {ops : Array Oper} : ∀ {l : List Oper} {aid : Nat} {e : Env} {L : Lits} {σ : Store} {Q : Env → Lits → Store → List Foot → Prop}, wpL P C ops l aid e L σ Q →
    ∃ e1 L1 σ1 fs, evL P (CS C) ops l aid e σ = some (e1, σ1) ∧ feetL P (CS C) ops l aid e σ = some fs ∧ Q e1 L1 σ1 fs
  | [], aid, e, L, σ, Q, h => ⟨e, L, σ, [], rfl, rfl, h⟩
  | o :: l, aid, e, L, σ, Q, h => by
    unfold wpL at h
    obtain ⟨b, L', hw, h⟩ := wantsW_ok h
    unfold evL feetL
    rw [hw]
    cases b with
    | true =>
      simp only at h ⊢
      obtain ⟨v, i, σ', f, L2, h1, h2⟩ := wpOp_ok hC h
      obtain ⟨e1, L1, σ1, fs, h3, h4, h5⟩ := wpL_ok hC h2
      rw [h1]
      simp only
      exact ⟨e1, L1, σ1, f :: fs, h3, by rw [h4]; rfl, h5⟩
    | false =>
      simp only at h ⊢
      obtain ⟨e1, L1, σ1, fs, h3, h4, h5⟩ := wpL_ok hC h
      exact ⟨e1, L1, σ1, .none :: fs, h3, by rw [h4]; rfl, h5⟩
/-- What is known of the loops of a piece of code. -/
def LoopFits (P : Program) (C : WCfg) (N : Nat) (c : Code) : Prop :=
  ∀ row, C.loops (keyOf c) = some row → ∀ b, row.pre b → Tri P C.n0 N (.loop c) (tb (row.T b)) (row.S b) fun ex e σ => ∃ o ∈ row.outs, ∃ a, o.post b a ∧ ex = o.ex ∧ ∃ src, Wk C.n0 src e σ (o.T b a) (o.S b a)
def LoopsIn (u : Nat → Nat) (T : Code → Prop) : Code → Prop
  | .seq a b => LoopsIn u T a ∧ LoopsIn u T b
  | .cond _ a b => LoopsIn u T a ∧ LoopsIn u T b
  | .block _ c => LoopsIn u T c
  | .scope c => LoopsIn u T c
  | .loop c => (u (keyOf c) = 0 → T c) ∧ (u (keyOf c) ≠ 0 → LoopsIn u T c)
  | _ => True
theorem outsW_ok {β : Type} {b : β} {Q : KC} : ∀ {os : List (LOut β)}, outsW b Q os → ∀ o ∈ os, ∀ a, o.post b a → Q o.ex (tb (o.T b a)) (fun _ => .no) (o.S b a)
  | [], h, o, ho => by cases ho
  | [o'], h, o, ho => by
    rcases List.mem_singleton.1 ho with rfl
    exact h
  | o' :: o2 :: os, h, o, ho => by
    rcases List.mem_cons.1 ho with rfl | ho
    · exact h.1
    · exact outsW_ok h.2 o ho
def KcE (Q : KC) : PostE := fun ex e σ => ∃ L, Q ex e L σ
theorem wpC_ok (hC : SpecsOk P C) (hmix : P.follows .mixedOrders = true) {N : Nat} : ∀ {c : Code} {e : Env} {L : Lits} {σ : Store} {Q : KC}, goodCode C.M N c = true → LoopsIn C.unr (LoopFits P C N) c → wpC P C c e L σ Q → Tri P C.n0 N c e σ (KcE Q) := by
  intro c
  have same : ∀ {Γ0 : Ctx} {σ0 : Store} {w0 : World} {Γ : Ctx} {w : World} {e : Env} {σ : Store} {a : Act}, Reach Γ0 σ0 w0 Γ σ w → Slots Γ w e a → SR Γ σ w → a.tmps.size = N → CodeEnd N Γ0 σ0 w0 e σ a.defers a w := fun h0 h1 h2 h3 => ⟨_, h1, h2, h0, h3, rfl⟩
  induction c with
  | skip => intro e L σ Q hg hl h Γ0 σ0 w0 Γ w a K h1 h2 h3 h4 h5 h6 h7; exact wp_skip (h7 .normal e σ _ _ ⟨L, h⟩ (same h3 h4 h5 h6))
  | label l => intro e L σ Q hg hl h Γ0 σ0 w0 Γ w a K h1 h2 h3 h4 h5 h6 h7; exact wp_label (h7 .normal e σ _ _ ⟨L, h⟩ (same h3 h4 h5 h6))
  | ret => intro e L σ Q hg hl h Γ0 σ0 w0 Γ w a K h1 h2 h3 h4 h5 h6 h7; exact wp_ret (h7 .ret e σ _ _ ⟨L, h⟩ (same h3 h4 h5 h6))
  | exit id => intro e L σ Q hg hl h Γ0 σ0 w0 Γ w a K h1 h2 h3 h4 h5 h6 h7; exact wp_exit (h7 (.exit id) e σ _ _ ⟨L, h⟩ (same h3 h4 h5 h6))
  | region id ops draw =>
    intro e L σ Q hg hl h Γ0 σ0 w0 Γ w a K h1 h2 h3 h4 h5 h6 h7
    unfold wpC at h
    obtain ⟨e1, L1, σ1, fs, k1, k2, k3⟩ := wpL_ok hC h
    obtain ⟨k4, k5⟩ := onB_ok k3
    have hev : evCode P (callD C.M (runS C)) (fun _ _ _ => none) (.region id ops draw) e σ = some (.normal, e1, σ1) := by
      unfold evCode
      have hd : drawOk P (CS C) ops draw e σ = true := by
        unfold drawOk
        by_cases hb : (draw && !(badPairs ops).isEmpty) = true
        · rw [if_pos hb, k2]
          simp only
          rw [Bool.or_eq_true, Bool.or_eq_true] at k4
          rcases k4 with (k4 | k4) | k4
          · simp_all
          · simp_all
          · exact k4
        · rw [if_neg hb]
      rw [if_pos hd, k1]; rfl
    refine region_sim (callS_ok hC) hmix hg hev h4 h5 h6 ?_
    intro a' w' hc
    exact h7 .normal e1 σ1 a' w' ⟨L1, k5⟩ (hc.step h3)
  | seq x y ihx ihy =>
    intro e L σ Q hg hl h Γ0 σ0 w0 Γ w a K h1 h2 h3 h4 h5 h6 h7
    simp only [goodCode, Bool.and_eq_true] at hg
    unfold wpC at h
    refine wp_seq ?_
    refine ihx hg.1 hl.1 h Γ0 σ0 w0 Γ w a _ h1 h2 h3 h4 h5 h6 ?_
    rintro ex e1 σ1 a1 w1 ⟨L1, hq⟩ hc
    cases ex with
    | normal =>
      obtain ⟨Γ1, k1, k2, k3, k4, k5⟩ := hc
      refine ihy hg.2 hl.2 hq Γ0 σ0 w0 Γ1 w1 a1 _ h1 h2 k3 k1 k2 k4 ?_
      intro ex e' σ' a' w' hQ hc'
      rw [k5] at hc'
      exact h7 ex e' σ' a' w' hQ hc'
    | exit id => exact h7 _ _ _ _ _ ⟨L1, hq⟩ hc
    | ret => exact h7 _ _ _ _ _ ⟨L1, hq⟩ hc
  | cond c x y ihx ihy =>
    intro e L σ Q hg hl h Γ0 σ0 w0 Γ w a K h1 h2 h3 h4 h5 h6 h7
    simp only [goodCode, Bool.and_eq_true] at hg
    have hc := h4.opnd c
    unfold wpC at h
    split at h
    · rename_i d
      split at h
      · rename_i t ho
        obtain ⟨L', hk⟩ := askW_ok ho h
        simp only [opnd, ho] at hc
        cases t with
        | true => exact wp_cond_true (R1.bool.1 hc) (ihx hg.1 hl.1 hk Γ0 σ0 w0 Γ w a K h1 h2 h3 h4 h5 h6 h7)
        | false => exact wp_cond_false (R1.bool.1 hc) (ihy hg.2 hl.2 hk Γ0 σ0 w0 Γ w a K h1 h2 h3 h4 h5 h6 h7)
      · exact h.elim
    · split at h
      · rename_i ho
        rw [ho] at hc
        exact wp_cond_true (R1.bool.1 hc) (ihx hg.1 hl.1 h Γ0 σ0 w0 Γ w a K h1 h2 h3 h4 h5 h6 h7)
      · rename_i ho
        rw [ho] at hc
        exact wp_cond_false (R1.bool.1 hc) (ihy hg.2 hl.2 h Γ0 σ0 w0 Γ w a K h1 h2 h3 h4 h5 h6 h7)
      · exact h.elim
  | block id x ih =>
    intro e L σ Q hg hl h Γ0 σ0 w0 Γ w a K h1 h2 h3 h4 h5 h6 h7
    unfold wpC at h
    refine wp_block ?_
    refine ih hg hl h Γ0 σ0 w0 Γ w a _ h1 h2 h3 h4 h5 h6 ?_
    rintro ex e1 σ1 a1 w1 ⟨L1, hq⟩ hc
    cases ex with
    | normal => exact h7 _ _ _ _ _ ⟨L1, hq⟩ hc
    | exit id' =>
      simp only at hq
      simp only [exOf, Exit.inBlock]
      split at hq
      · rename_i hid
        rw [if_pos (of_decide_eq_true hid)]
        exact h7 _ _ _ _ _ ⟨L1, hq⟩ hc
      · rename_i hid
        rw [if_neg (of_decide_eq_false hid)]
        exact h7 _ _ _ _ _ ⟨L1, hq⟩ hc
    | ret => exact h7 _ _ _ _ _ ⟨L1, hq⟩ hc
  | scope x ih =>
    intro e L σ Q hg hl h Γ0 σ0 w0 Γ w a K h1 h2 h3 h4 h5 h6 h7
    unfold wpC at h
    refine wp_scope_straight (ih hg hl h Γ0 σ0 w0 Γ w a _ h1 h2 h3 h4 h5 h6 fun ex e1 σ1 a1 w1 hq hc => ?_)
    have := h7 _ _ _ _ _ hq hc
    cases ex <;> exact this
  | loop x ih =>
    intro e L σ Q hg hl h
    unfold wpC at h
    split at h
    · rename_i n hn
      have hin := hl.2 (by omega)
      clear hn
      generalize n + 1 = m at h
      intro Γ0 σ0 w0 Γ w a K h1 h2 h3 h4 h5 h6 h7
      refine wp_loop_ghost (fun k a1 w1 => ∃ e1 L1 σ1 Γ1, unrollW (fun e L σ Q => wpC P C x e L σ Q) k e1 L1 σ1 Q ∧ Reach Γ0 σ0 w0 Γ1 σ1 w1 ∧ Slots Γ1 w1 e1 a1 ∧ SR Γ1 σ1 w1 ∧ a1.tmps.size = N ∧ a1.defers = a.defers) m ⟨e, L, σ, Γ, h, h3, h4, h5, h6, rfl⟩ ?_
      rintro k a1 w1 ⟨e1, L1, σ1, Γ1, k1, k2, k3, k4, k5, k6⟩
      cases k with
      | zero => exact k1.elim
      | succ k =>
        unfold unrollW at k1
        refine ih hg hin k1 Γ0 σ0 w0 Γ1 w1 a1 _ h1 h2 k2 k3 k4 k5 ?_
        rintro ex e2 σ2 a2 w2 ⟨L2, hq⟩ hc
        rw [k6] at hc
        cases ex with
        | normal =>
          obtain ⟨Γ2, l1, l2, l3, l4, l5⟩ := hc
          exact ⟨k, Nat.lt_succ_self k, e2, L2, σ2, Γ2, hq, l3, l1, l2, l4, l5⟩
        | exit id => exact h7 _ _ _ _ _ ⟨L2, hq⟩ hc
        | ret => exact h7 _ _ _ _ _ ⟨L2, hq⟩ hc
    rename_i hn
    split at h
    · rename_i row hrow
      obtain ⟨b, hpre, hwk, houts⟩ := h
      refine Tri.weak hwk ?_
      have ht := hl.1 hn row hrow b hpre
      -- what is behind the loop is weakened in its turn
      intro Γ0 σ0 w0 Γ w a K h1 h2 h3 h4 h5 h6 h7
      refine ht Γ0 σ0 w0 Γ w a K h1 h2 h3 h4 h5 h6 ?_
      rintro ex e1 σ1 a1 w1 ⟨o, ho, y, hpost, rfl, src, hw2⟩ hc
      obtain ⟨Γ1, k1, k2, k3, k4, k5⟩ := hc
      obtain ⟨Γ2, l1, l2, l3⟩ := hw2.ok h1 k3 k1 k2 h2
      exact h7 _ _ _ _ _ ⟨_, outsW_ok houts o ho y hpost⟩ ⟨Γ2, l2, l3, l1, k4, k5⟩
    · exact h.elim
  | _ => intro e L σ Q hg; simp [goodCode] at hg

/-- A round of a loop. -/
theorem wpR_ok (hC : SpecsOk P C) (hmix : P.follows .mixedOrders = true) {N : Nat} {c : Code} {T : List (Nat × D)} {Sg : Store} {Q : PostE} (hg : goodCode C.M N c = true) (hl : LoopsIn C.unr (LoopFits P C N) c) (h : wpR P C c T Sg Q) : Tri P C.n0 N c (tb T) Sg Q :=
  (wpC_ok hC hmix hg hl h).mono fun ex e σ ⟨_, hq⟩ => hq

/-! ### functions -/
theorem dataFun_ok (hC : SpecsOk P C) (hmix : P.follows .mixedOrders = true) (h0 : C.n0 = 0) {f : FuncId} {fn : Func} (hf : P.funcs[f]? = some fn) (hg : goodFn C.M fn = true) (hl : LoopsIn C.unr (LoopFits P C fn.ntmps) (bodyOf fn)) {args : List D} (hn : args.length = fn.params.size + fn.nfree)
    {r : D} (hr : frz 0 [] r = some r) (h : wpF P C fn args r) : DataFun P f args r := by
  refine ⟨hr, fun Γ0 w vargs hs hargs => ?_⟩
  unfold goodFn at hg
  simp only [Bool.and_eq_true, bne_iff_ne, ne_eq, decide_eq_true_eq] at hg
  obtain ⟨⟨hname, hnt⟩, hbody⟩ := hg
  cases hc : fn.body with
  | none => rw [hc] at hbody; cases hbody
  | some c =>
    rw [hc] at hbody
    simp only at hbody
    have hbo : bodyOf fn = c := by unfold bodyOf; rw [hc]
    unfold wpF at h
    rw [hbo] at h hl
    refine .inl ⟨⟨fn, hf, hname, by rw [hc]; rfl⟩, ?_⟩
    refine calls_of_wp hf hc ?_
    have hlen : args.length = vargs.size := by simpa using hargs.length
    have htri := wpC_ok hC hmix hbody hl h
    rw [h0] at htri
    refine htri Γ0 [] w Γ0 w _ _ rfl (fun id hid => hs.below id hid) (.refl _ _ _) (entry_slots hargs _) hs (by simp; omega) ?_
    rintro ex e' σ' a' w' ⟨L, hq⟩ ⟨Γ', k1, k2, k3, k4, k5⟩
    have key : onO (resultsD P fn.results.toList e' σ') (fun d => frzW σ' d fun r' => r' = r) → ∃ v, (results fn a'.tmps).run P w' = .ok v w' ∧ ∃ v' C', Ending.returned v = Ending.returned v' ∧ DataR C' w' r v' ∧ Behind Γ0.C w C' w' := by
      intro hq
      obtain ⟨d, h1, h2⟩ := onO_ok hq
      obtain ⟨r', h3, rfl⟩ := frzW_ok h2 0
      obtain ⟨v, hv, hrel⟩ := results_ok k2 k1 h1
      refine ⟨v, hv, v, fun b => Γ'.C b ∨ (w.heap.size ≤ b ∧ b < w'.heap.size), rfl, ?_, ?_⟩
      · have htr := k3.tr
        refine frz_ok (Γ' := { Γ' with C := fun b => Γ'.C b ∨ (w.heap.size ≤ b ∧ b < w'.heap.size) }) k2 ⟨fun b hb => .inl hb, fun _ h => h, fun _ _ => rfl, fun _ _ => rfl, fun _ _ => rfl⟩ hrel h3 ?_
        intro id st e xs hst ho
        obtain ⟨⟨_, _, c, _, _, _, hh, _⟩, _, hcst⟩ := k2.row _ _ _ _ ho
        have hlt := (Array.getElem?_eq_some_iff.1 hh).1
        cases st with
        | own =>
          rcases htr.own _ ⟨id, e, xs, ho, rfl⟩ with h | h
          · obtain ⟨id', _, _, ho', _⟩ := h; simp [Store.obj] at ho'
          · exact .inr ⟨h, hlt⟩
        | cst => exact .inl (hcst rfl)
        | shut => exact absurd rfl hst
      · have htr := k3.tr
        have hno : ∀ b, ¬ Own Γ0 [] b := by rintro b ⟨id', _, _, ho', _⟩; simp [Store.obj] at ho'
        refine ⟨fun b hb => ?_, fun b hb => .inl (htr.agree.C b hb), fun b hb => htr.kept b hb (hno b), htr.os, htr.tape, htr.output, htr.size, htr.drawn⟩
        rcases hb with hb | hb
        · refine ⟨?_, k2.old b hb⟩
          rcases htr.cnew b hb with h | h | h
          · exact .inl h
          · exact .inr h
          · exact absurd h (hno _)
        · exact ⟨.inr hb.1, hb.2⟩
    cases ex with
    | exit id => exact hq.elim
    | normal => obtain ⟨v, hv, v', C', e1, h5, h6⟩ := key hq; injection e1 with e1; subst e1; exact ⟨k5, v, hv, v, C', rfl, h5, h6⟩
    | ret => obtain ⟨v, hv, v', C', e1, h5, h6⟩ := key hq; injection e1 with e1; subst e1; exact ⟨k5, v, hv, v, C', rfl, h5, h6⟩
/-- A function that works on its caller's memory. -/
def endR1 (P : Program) (fn : Func) (r : D) (σ' : Store) : KC := fun ex e L σ =>
  match ex with
  | .exit _ => False
  | _ => onO (resultsD P fn.results.toList e σ) fun d => d = r ∧ σ = σ'
theorem refFun_ok (hC : SpecsOk P C) (hmix : P.follows .mixedOrders = true) {f : FuncId} {fn : Func} (hf : P.funcs[f]? = some fn) (hg : goodFn C.M fn = true) (hl : LoopsIn C.unr (LoopFits P C fn.ntmps) (bodyOf fn)) {args : List D} (hn : args.length = fn.params.size + fn.nfree)
    {σ σ' : Store} (h0 : C.n0 = σ.length) {r : D} (h : wpC P C (bodyOf fn) (entry args) (fun _ => .no) σ (endR1 P fn r σ')) : RefFun P f args σ r σ' := by
  intro Γ w vargs hs hargs
  unfold goodFn at hg
  simp only [Bool.and_eq_true, bne_iff_ne, ne_eq, decide_eq_true_eq] at hg
  obtain ⟨⟨hname, hnt⟩, hbody⟩ := hg
  cases hc : fn.body with
  | none => rw [hc] at hbody; cases hbody
  | some c =>
    rw [hc] at hbody
    simp only at hbody
    have hbo : bodyOf fn = c := by unfold bodyOf; rw [hc]
    rw [hbo] at h hl
    refine .inl ⟨⟨fn, hf, hname, by rw [hc]; rfl⟩, ?_⟩
    refine calls_of_wp hf hc ?_
    have hlen : args.length = vargs.size := by simpa using hargs.length
    have htri := wpC_ok hC hmix hbody hl h
    rw [h0] at htri
    refine htri Γ σ w Γ w _ _ rfl (fun id hid => hs.below id hid) (.refl _ _ _) (entry_slots hargs _) hs (by simp; omega) ?_
    rintro ex e' σ1 a' w' ⟨L, hq⟩ ⟨Γ', k1, k2, k3, k4, k5⟩
    have key : onO (resultsD P fn.results.toList e' σ1) (fun d => d = r ∧ σ1 = σ') → ∃ v, (results fn a'.tmps).run P w' = .ok v w' ∧ Post Γ σ w r σ' (.returned v) w' := by
      intro hq
      obtain ⟨d, h1, rfl, rfl⟩ := onO_ok hq
      obtain ⟨v, hv, hrel⟩ := results_ok k2 k1 h1
      exact ⟨v, hv, v, Γ', rfl, hrel, k2, k3⟩
    cases ex with
    | exit id => exact hq.elim
    | normal => obtain ⟨v, hv, hp⟩ := key hq; exact ⟨k5, v, hv, hp⟩
    | ret => obtain ⟨v, hv, hp⟩ := key hq; exact ⟨k5, v, hv, hp⟩
theorem refFun_run {M : Modes} (hgood : GoodM P M) (hprim : PrimOk P M) (hmix : P.follows .mixedOrders = true) (n : Nat) {f : FuncId} {args : List D} {σ σ' : Store} {r : D} (h : (runN P M n).1 f args σ = some (r, σ')) : RefFun P f args σ r σ' :=
  fun Γ w vargs hs hargs => run_ok hgood hprim hmix f args σ r σ' Γ w vargs (run_iff.2 ⟨n, h⟩) hs hargs
/-- What is computed whole. -/
theorem dataFun_run {M : Modes} (hgood : GoodM P M) (hprim : PrimOk P M) (hmix : P.follows .mixedOrders = true) (n : Nat) {f : FuncId} {args : List D} {r : D} (hr : frz 0 [] r = some r) (h : (((runN P M n).1 f args []).bind fun q => frz 0 q.2 q.1) = some r) : DataFun P f args r := by
  obtain ⟨⟨r0, τ⟩, h1, h2⟩ := Option.bind_eq_some_iff.1 h
  refine ⟨hr, fun Γ0 w vargs hs hargs => ?_⟩
  exact pure_call (run_ok hgood hprim hmix) hs (by rintro b ⟨id', _, _, ho', _⟩; simp [Store.obj] at ho') hargs (run_iff.2 ⟨n, h1⟩) h2
/-- What a law answers. -/
theorem law_data {f : FuncId} {xs : List D} {args : Array Value} {W : World} (hent : Enters P f) (hr : R (Old W) W none xs args.toList) (h : DataFun P f xs (.bool true)) : Calls P f args W fun e W' => e = .returned (.bool true) ∧ RowKit.Below W.heap.size W W' := by
  have key : ∀ {ds : List D} {vs : List Value}, R (Old W) W none ds vs → R (Old W) W none ds vs := id
  have hs : SR (Old W) [] W := ⟨fun id st esz xs h => by simp [Store.obj] at h, fun id st kvs h => by simp [Store.obj] at h, fun id id' o o' h => by simp [Store.obj] at h, fun id o h => by simp [Store.obj] at h, fun b hb => hb, fun id h => h.elim⟩
  refine ((h.2 (Old W) W args hs hr).calls hent).mono ?_
  rintro e W' ⟨v, C', rfl, h1, h2⟩
  have := h1 { Old W with C := C' } (fun b hb => hb)
  refine ⟨by rw [R1.bool.1 this], ⟨h2.os, h2.tape, h2.output, h2.size, fun k hk => h2.kept k hk⟩⟩
end
end Go.Proofs.Ytfclelafcdcilaa.Dv
