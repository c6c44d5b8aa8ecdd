/- What the evaluator's values and store say of the machine's. -/
import Derived.Test.YtgibpomhiilehaaDvRun
set_option linter.unusedVariables false
set_option linter.unusedSimpArgs false
namespace Go.Proofs.Ytgibpomhiilehaa.Dv
open Go

/-- C: blocks that are never written any more; A: the store's places that are taken; their blocks, the cells of an element, the cells of the block. -/
structure Ctx where
  C : Nat → Prop
  A : Nat → Prop
  ρ : Nat → Nat
  ez : Nat → Nat
  bs : Nat → Nat
def adr (Γ : Ctx) (id i j : Nat) : Addr := ⟨Γ.ρ id, i * Γ.ez id + j, none⟩
def atom (Γ : Ctx) : D → Value → Prop
  | .undef, v => v = Go.undef
  | .any, _ => True
  | .bool b, v => v = .bool b
  | .int k n, v => v = .int k n
  | .str s, v => v = .string s
  | .nilp, v => v = .pointer none
  | .nilfn, v => v = .nilFunc
  | .nilmp, v => v = .map none
  | .junk, v => v.oneCell' = true
  | .nsl true, v => ∃ c, v = .slice none 0 c ∧ c ≤ maxLen
  | .nsl false, v => ∃ a c, v = .slice (some a) 0 c ∧ c ≤ maxLen
  | .mp id, v => Γ.A id ∧ v = .map (some (Γ.ρ id))
  | .ptr id i j, v => Γ.A id ∧ v = .pointer (some (adr Γ id i j))
  | .ms id off len cap ex, v => Γ.A id ∧ ∃ a c, v = .slice a len c ∧ len ≤ c ∧ cap ≤ c ∧ (ex = true → c = cap) ∧ (c = 0 ∨ a = some (adr Γ id off 0)) ∧ (off + c) * Γ.ez id ≤ Γ.bs id ∧ c ≤ maxLen
  | _, _ => False
/-- none: each value by itself; some sz: elements of so many cells, one behind the other. -/
inductive R (Γ : Ctx) (w : World) : Option Nat → List D → List Value → Prop
  | nil (m : Option Nat) : R Γ w m [] []
  | atom {d : D} {v : Value} {ds : List D} {vs : List Value} (h : atom Γ d v) (t : R Γ w none ds vs) : R Γ w none (d :: ds) (v :: vs)
  | agg {es ds : List D} {us vs : List Value} (h : R Γ w none es us) (hl : es.all D.leaf = true) (t : R Γ w none ds vs) : R Γ w none (.agg es :: ds) (.agg us.toArray :: vs)
  | tup {es ds : List D} {us vs : List Value} (h : R Γ w none es us) (t : R Γ w none ds vs) : R Γ w none (.tup es :: ds) (.tuple us.toArray :: vs)
  | fn {f : FuncId} {fs cs ds : List D} {us ws vs : List Value} (h1 : R Γ w none fs us) (h2 : R Γ w none cs ws) (t : R Γ w none ds vs) : R Γ w none (.fn f fs cs :: ds) (.func (.func f) us.toArray ws.toArray :: vs)
  | sl {full : Bool} {xs ds : List D} {us vs : List Value} {a : Option Addr} {c sz : Nat} (hp : xs.all D.pure = true) (hn : xs.length ≤ c) (hc : c ≤ maxLen) (hf : full = true → c = xs.length) (h : R Γ w (some sz) xs us) (hz : 0 < sz)
      (ha : xs ≠ [] → ∃ b o, a = some ⟨b, o, none⟩ ∧ Γ.C b ∧ ∀ k u, us[k]? = some u → w.cell? ⟨b, o + k, none⟩ = some u) (t : R Γ w none ds vs) : R Γ w none (.sl full xs :: ds) (.slice a xs.length c :: vs)
  | cpt {x : D} {j : Nat} {ds : List D} {us vs : List Value} {b o : Nat} (hp : x.pure = true) (he : x.elem = true) (h : R Γ w none x.cells us) (hC : Γ.C b) (ha : ∀ k u, us[k]? = some u → w.cell? ⟨b, o + k, none⟩ = some u) (t : R Γ w none ds vs) :
      R Γ w none (.cpt x j :: ds) (.pointer (some ⟨b, o + j, none⟩) :: vs)
  | elem {sz : Nat} {x : D} {xs : List D} {us vs : List Value} (hx : x.elem = true) (h : R Γ w none x.cells us) (hl : us.length = sz) (t : R Γ w (some sz) xs vs) : R Γ w (some sz) (x :: xs) (us ++ vs)
abbrev R1 (Γ : Ctx) (w : World) (d : D) (v : Value) : Prop := R Γ w none [d] [v]

section
variable {Γ Γ' : Ctx} {w w' : World}
theorem R.length {ds : List D} {vs : List Value} (h : R Γ w none ds vs) : ds.length = vs.length := by
  generalize hm : (none : Option Nat) = m at h
  induction h <;> simp_all
theorem R.lengthE {sz : Nat} {xs : List D} {us : List Value} (h : R Γ w (some sz) xs us) : us.length = xs.length * sz := by
  generalize hm : (some sz : Option Nat) = m at h
  induction h with
  | nil m => simp
  | elem hx h hl t ih1 ih2 => injection hm with hm; subst hm; simp [hl, ih2 rfl, Nat.add_mul]; omega
  | _ => cases hm
theorem R.cons_inv {d : D} {ds : List D} {vs : List Value} (h : R Γ w none (d :: ds) vs) : ∃ v vs', vs = v :: vs' ∧ R1 Γ w d v ∧ R Γ w none ds vs' := by
  cases h with
  | atom h t => exact ⟨_, _, rfl, .atom h (.nil _), t⟩
  | agg h hl t => exact ⟨_, _, rfl, .agg h hl (.nil _), t⟩
  | tup h t => exact ⟨_, _, rfl, .tup h (.nil _), t⟩
  | fn h1 h2 t => exact ⟨_, _, rfl, .fn h1 h2 (.nil _), t⟩
  | sl hp hn hc hf h hz ha t => exact ⟨_, _, rfl, .sl hp hn hc hf h hz ha (.nil _), t⟩
  | cpt hp he h hC ha t => exact ⟨_, _, rfl, .cpt hp he h hC ha (.nil _), t⟩
theorem R.cons {d : D} {v : Value} {ds : List D} {vs : List Value} (h : R1 Γ w d v) (t : R Γ w none ds vs) : R Γ w none (d :: ds) (v :: vs) := by
  cases h with
  | atom h _ => exact .atom h t
  | agg h hl _ => exact .agg h hl t
  | tup h _ => exact .tup h t
  | fn h1 h2 _ => exact .fn h1 h2 t
  | sl hp hn hc hf h hz ha _ => exact .sl hp hn hc hf h hz ha t
  | cpt hp he h hC ha _ => exact .cpt hp he h hC ha t
theorem R.nil_inv {vs : List Value} {m : Option Nat} (h : R Γ w m [] vs) : vs = [] := by cases h; rfl
theorem R.append {ds es : List D} : ∀ {vs us : List Value}, R Γ w none ds vs → R Γ w none es us → R Γ w none (ds ++ es) (vs ++ us) := by
  induction ds with
  | nil => intro vs us h k; rw [h.nil_inv]; exact k
  | cons d ds ih => intro vs us h k; obtain ⟨v, vs', rfl, h1, h2⟩ := h.cons_inv; exact R.cons h1 (ih h2 k)
theorem R.get {ds : List D} : ∀ {vs : List Value} {i : Nat} {d : D}, R Γ w none ds vs → ds[i]? = some d → ∃ v, vs[i]? = some v ∧ R1 Γ w d v := by
  induction ds with
  | nil => intro vs i d _ h; simp at h
  | cons x ds ih =>
    intro vs i d h hd
    obtain ⟨v, vs', rfl, h1, h2⟩ := h.cons_inv
    cases i with
    | zero => simp at hd; subst hd; exact ⟨v, rfl, h1⟩
    | succ i => simpa using ih h2 (by simpa using hd)
theorem R.of_get {ds : List D} : ∀ {vs : List Value}, ds.length = vs.length → (∀ (i : Nat) (d : D) (v : Value), ds[i]? = some d → vs[i]? = some v → R1 Γ w d v) → R Γ w none ds vs := by
  induction ds with
  | nil => intro vs hl _; cases vs with
    | nil => exact .nil _
    | cons _ _ => simp at hl
  | cons x ds ih =>
    intro vs hl h
    cases vs with
    | nil => simp at hl
    | cons v vs => exact R.cons (h 0 x v rfl rfl) (ih (by simpa using hl) fun i d u hd hu => h (i + 1) d u (by simpa using hd) (by simpa using hu))
theorem R.take {ds : List D} {vs : List Value} (h : R Γ w none ds vs) (n : Nat) : R Γ w none (ds.take n) (vs.take n) := by
  refine .of_get (by simp [h.length]) fun i d v hd hv => ?_
  rw [List.getElem?_take] at hd hv
  split at hd
  · rename_i hlt
    rw [if_pos hlt] at hv
    obtain ⟨u, hu, hr⟩ := h.get hd
    rw [hv] at hu
    injection hu with hu
    exact hu ▸ hr
  · cases hd
theorem R.drop {ds : List D} {vs : List Value} (h : R Γ w none ds vs) (n : Nat) : R Γ w none (ds.drop n) (vs.drop n) := by
  refine .of_get (by simp [h.length]) fun i d v hd hv => ?_
  rw [List.getElem?_drop] at hd hv
  obtain ⟨u, hu, hr⟩ := h.get hd
  rw [hv] at hu
  injection hu with hu
  exact hu ▸ hr
/-- What a value is: by its kind. -/
def isAtom : D → Bool
  | .agg _ | .tup _ | .fn .. | .sl .. | .cpt .. => false
  | _ => true
theorem R1.atom_iff {d : D} {v : Value} (hd : isAtom d = true) : R1 Γ w d v ↔ Dv.atom Γ d v := by
  constructor
  · intro h
    cases h with
    | atom h _ => exact h
    | _ => cases hd
  · exact fun h => .atom h (.nil _)
theorem R1.int {k : IntKind} {n : Int} {v : Value} : R1 Γ w (.int k n) v ↔ v = .int k n := R1.atom_iff rfl
theorem R1.bool {b : Bool} {v : Value} : R1 Γ w (.bool b) v ↔ v = .bool b := R1.atom_iff rfl
theorem R1.str {s : ByteArray} {v : Value} : R1 Γ w (.str s) v ↔ v = .string s := R1.atom_iff rfl
theorem R1.undef {v : Value} : R1 Γ w .undef v ↔ v = Go.undef := R1.atom_iff rfl
theorem R1.any {v : Value} : R1 Γ w .any v := (R1.atom_iff rfl).2 trivial
theorem R1.nilp {v : Value} : R1 Γ w .nilp v ↔ v = .pointer none := R1.atom_iff rfl
theorem R1.nilfn {v : Value} : R1 Γ w .nilfn v ↔ v = .nilFunc := R1.atom_iff rfl
theorem R1.ptr {id i j : Nat} {v : Value} : R1 Γ w (.ptr id i j) v ↔ Γ.A id ∧ v = .pointer (some (adr Γ id i j)) := R1.atom_iff rfl
theorem R1.ms {id off len cap : Nat} {ex : Bool} {v : Value} : R1 Γ w (.ms id off len cap ex) v ↔ Γ.A id ∧ ∃ a c, v = .slice a len c ∧ len ≤ c ∧ cap ≤ c ∧ (ex = true → c = cap) ∧ (c = 0 ∨ a = some (adr Γ id off 0)) ∧ (off + c) * Γ.ez id ≤ Γ.bs id ∧ c ≤ maxLen := R1.atom_iff rfl
theorem R1.agg {es : List D} {v : Value} : R1 Γ w (.agg es) v ↔ ∃ us, v = .agg us.toArray ∧ R Γ w none es us ∧ es.all D.leaf = true := by
  constructor
  · intro h
    cases h with
    | agg h hl _ => exact ⟨_, rfl, h, hl⟩
    | atom h _ => exact h.elim
  · rintro ⟨us, rfl, h, hl⟩; exact R.agg h hl (.nil _)
theorem R1.tup {es : List D} {v : Value} : R1 Γ w (.tup es) v ↔ ∃ us, v = .tuple us.toArray ∧ R Γ w none es us := by
  constructor
  · intro h
    cases h with
    | tup h _ => exact ⟨_, rfl, h⟩
    | atom h _ => exact h.elim
  · rintro ⟨us, rfl, h⟩; exact R.tup h (.nil _)
theorem R1.fn {f : FuncId} {fs cs : List D} {v : Value} : R1 Γ w (.fn f fs cs) v ↔ ∃ us ws, v = .func (.func f) us.toArray ws.toArray ∧ R Γ w none fs us ∧ R Γ w none cs ws := by
  constructor
  · intro h
    cases h with
    | fn h1 h2 _ => exact ⟨_, _, rfl, h1, h2⟩
    | atom h _ => exact h.elim
  · rintro ⟨us, ws, rfl, h1, h2⟩; exact R.fn h1 h2 (.nil _)
def SlR (Γ : Ctx) (w : World) (full : Bool) (xs : List D) (v : Value) : Prop :=
  ∃ a c sz us, v = .slice a xs.length c ∧ xs.all D.pure = true ∧ xs.length ≤ c ∧ c ≤ maxLen ∧ (full = true → c = xs.length) ∧ R Γ w (some sz) xs us ∧ 0 < sz ∧
    (xs ≠ [] → ∃ b o, a = some ⟨b, o, none⟩ ∧ Γ.C b ∧ ∀ k u, us[k]? = some u → w.cell? ⟨b, o + k, none⟩ = some u)
theorem R1.sl {full : Bool} {xs : List D} {v : Value} : R1 Γ w (.sl full xs) v ↔ SlR Γ w full xs v := by
  constructor
  · intro h
    cases h with
    | sl hp hn hc hf h hz ha _ => exact ⟨_, _, _, _, rfl, hp, hn, hc, hf, h, hz, ha⟩
    | atom h _ => exact h.elim
  · rintro ⟨a, c, sz, us, rfl, hp, hn, hc, hf, h, hz, ha⟩; exact R.sl hp hn hc hf h hz ha (.nil _)
def CptR (Γ : Ctx) (w : World) (x : D) (j : Nat) (v : Value) : Prop :=
  ∃ us b o, v = .pointer (some ⟨b, o + j, none⟩) ∧ x.pure = true ∧ x.elem = true ∧ R Γ w none x.cells us ∧ Γ.C b ∧ ∀ k u, us[k]? = some u → w.cell? ⟨b, o + k, none⟩ = some u
theorem R1.cpt {x : D} {j : Nat} {v : Value} : R1 Γ w (.cpt x j) v ↔ CptR Γ w x j v := by
  constructor
  · intro h
    cases h with
    | cpt hp he h hC ha _ => exact ⟨_, _, _, rfl, hp, he, h, hC, ha⟩
    | atom h _ => exact h.elim
  · rintro ⟨us, b, o, rfl, hp, he, h, hC, ha⟩; exact R.cpt hp he h hC ha (.nil _)

theorem R1.oneCell {d : D} {v : Value} (h : R1 Γ w d v) (hl : d.leaf = true) : v.oneCell' = true := by
  cases h with
  | atom h _ =>
    cases d <;> simp only [D.leaf, Bool.false_eq_true] at hl <;> simp only [Dv.atom] at h
    case ms => obtain ⟨_, a, c, rfl, _⟩ := h; rfl
    case junk => exact h
    all_goals first | (subst h; rfl) | (obtain ⟨_, rfl⟩ := h; rfl) | exact h.elim
  | agg => cases hl
  | tup => cases hl
  | fn => rfl
  | sl => rfl
  | cpt => rfl
theorem cells_of_one {v : Value} (h : v.oneCell' = true) : v.cells = #[v] := by
  cases v <;> first | rfl | (simp [Value.oneCell'] at h)
/-- A value and its cells. -/
theorem R1.cells {d : D} {v : Value} (h : R1 Γ w d v) (he : d.elem = true) : R Γ w none d.cells v.cells.toList := by
  cases d with
  | agg es => obtain ⟨us, rfl, h, _⟩ := R1.agg.1 h; simpa [D.cells, Value.cells] using h
  | _ => rw [cells_of_one (h.oneCell he)]; exact h
theorem R1.cells_size {d : D} {v : Value} (h : R1 Γ w d v) (he : d.elem = true) : v.cells.size = d.cells.length := by
  have := (h.cells he).length
  simp at this
  omega
theorem all_oneCell {ds : List D} : ∀ {us : List Value}, R Γ w none ds us → ds.all D.leaf = true → ∀ u ∈ us, u.oneCell' = true := by
  induction ds with
  | nil => intro us h _ u hu; rw [h.nil_inv] at hu; cases hu
  | cons d ds ih =>
    intro us h hl u hu
    obtain ⟨v, vs, rfl, h1, h2⟩ := h.cons_inv
    simp only [List.all_cons, Bool.and_eq_true] at hl
    cases hu with
    | head => exact h1.oneCell hl.1
    | tail _ hu => exact ih h2 hl.2 u hu
theorem elem_cells {x : D} (h : x.elem = true) : x.cells.all D.leaf = true := by
  cases x <;> simp_all [D.elem, D.cells]

/-! ### rows -/
theorem R.consE_inv {sz : Nat} {x : D} {xs : List D} {us : List Value} (h : R Γ w (some sz) (x :: xs) us) : ∃ vs ws, us = vs ++ ws ∧ x.elem = true ∧ R Γ w none x.cells vs ∧ vs.length = sz ∧ R Γ w (some sz) xs ws := by
  cases h with
  | elem hx h hl t => exact ⟨_, _, rfl, hx, h, hl, t⟩
theorem R.appendE {sz : Nat} {xs ys : List D} : ∀ {us vs : List Value}, R Γ w (some sz) xs us → R Γ w (some sz) ys vs → R Γ w (some sz) (xs ++ ys) (us ++ vs) := by
  induction xs with
  | nil => intro us vs h k; rw [h.nil_inv]; exact k
  | cons x xs ih =>
    intro us vs h k
    obtain ⟨a, b, rfl, hx, h1, hl, h2⟩ := h.consE_inv
    rw [List.cons_append, List.append_assoc]
    exact .elem hx h1 hl (ih h2 k)
theorem R.splitE {sz : Nat} {xs ys : List D} : ∀ {us : List Value}, R Γ w (some sz) (xs ++ ys) us → ∃ a b, us = a ++ b ∧ R Γ w (some sz) xs a ∧ R Γ w (some sz) ys b := by
  induction xs with
  | nil => intro us h; exact ⟨[], us, rfl, .nil _, h⟩
  | cons x xs ih =>
    intro us h
    obtain ⟨a, b, rfl, hx, h1, hl, h2⟩ := R.consE_inv (by simpa using h)
    obtain ⟨c, d, rfl, h3, h4⟩ := ih h2
    exact ⟨a ++ c, d, by simp, .elem hx h1 hl h3, h4⟩
theorem R.takeE {sz : Nat} {xs : List D} {us : List Value} (h : R Γ w (some sz) xs us) (n : Nat) (hn : n ≤ xs.length) : R Γ w (some sz) (xs.take n) (us.take (n * sz)) ∧ R Γ w (some sz) (xs.drop n) (us.drop (n * sz)) := by
  rw [← List.take_append_drop n xs] at h
  obtain ⟨a, b, rfl, h1, h2⟩ := h.splitE
  have hl := h1.lengthE
  have hl' : a.length = n * sz := by rw [hl, List.length_take, Nat.min_eq_left hn]
  rw [← hl', List.take_left, List.drop_left]
  exact ⟨h1, h2⟩
theorem R.getE {sz : Nat} {xs : List D} {us : List Value} (h : R Γ w (some sz) xs us) {i : Nat} {x : D} (hx : xs[i]? = some x) :
    x.elem = true ∧ x.cells.length = sz ∧ R Γ w none x.cells ((us.drop (i * sz)).take sz) := by
  have hi : i < xs.length := (List.getElem?_eq_some_iff.1 hx).1
  have h2 := (h.takeE i (by omega)).2
  have hd : xs.drop i = x :: xs.drop (i + 1) := by
    rw [List.drop_eq_getElem_cons hi]
    simp [(List.getElem?_eq_some_iff.1 hx).2]
  rw [hd] at h2
  obtain ⟨a, b, e, he, h3, hl, h4⟩ := h2.consE_inv
  rw [e, ← hl, List.take_left]
  exact ⟨he, by rw [h3.length], h3⟩
theorem R.setE {sz : Nat} {xs : List D} {us : List Value} (h : R Γ w (some sz) xs us) {i : Nat} {x : D} {vs : List Value} (hi : i < xs.length) (hx : x.elem = true) (hv : R Γ w none x.cells vs) (hl : vs.length = sz) :
    R Γ w (some sz) (xs.set i x) (us.take (i * sz) ++ vs ++ us.drop (i * sz + sz)) := by
  have h1 := (h.takeE i (by omega)).1
  have h2 := (h.takeE (i + 1) (by omega)).2
  have he : xs.set i x = xs.take i ++ x :: xs.drop (i + 1) := by rw [List.set_eq_take_append_cons_drop, if_pos hi]
  rw [he, List.append_assoc]
  refine h1.appendE (.elem hx hv hl ?_)
  rw [Nat.add_mul, Nat.one_mul] at h2
  exact h2
theorem R.replicateE {sz : Nat} {x : D} {vs : List Value} (hx : x.elem = true) (hv : R Γ w none x.cells vs) (hl : vs.length = sz) : ∀ n, R Γ w (some sz) (List.replicate n x) (List.replicate n vs).flatten
  | 0 => .nil _
  | n + 1 => by
    rw [List.replicate_succ, List.replicate_succ, List.flatten_cons]
    exact .elem hx hv hl (replicateE hx hv hl n)
theorem R.elemE {sz : Nat} {xs : List D} : ∀ {us : List Value}, R Γ w (some sz) xs us → (∀ x ∈ xs, x.elem = true ∧ x.cells.length = sz) ∧ ∀ u ∈ us, u.oneCell' = true := by
  induction xs with
  | nil => intro us h; rw [h.nil_inv]; simp
  | cons x xs ih =>
    intro us h
    obtain ⟨a, b, rfl, hx, h1, hl, h2⟩ := h.consE_inv
    obtain ⟨k1, k2⟩ := ih h2
    refine ⟨fun y hy => ?_, fun u hu => ?_⟩
    · cases hy with
      | head => exact ⟨hx, by rw [h1.length, hl]⟩
      | tail _ hy => exact k1 y hy
    · rcases List.mem_append.1 hu with hu | hu
      · exact all_oneCell h1 (elem_cells hx) u hu
      · exact k2 u hu

/-! ### the relation goes along -/
structure Agree (Γ Γ' : Ctx) : Prop where
  C : ∀ b, Γ.C b → Γ'.C b
  A : ∀ id, Γ.A id → Γ'.A id
  ρ : ∀ id, Γ.A id → Γ'.ρ id = Γ.ρ id
  ez : ∀ id, Γ.A id → Γ'.ez id = Γ.ez id
  bs : ∀ id, Γ.A id → Γ'.bs id = Γ.bs id
theorem Agree.refl (Γ : Ctx) : Agree Γ Γ := ⟨fun _ h => h, fun _ h => h, fun _ _ => rfl, fun _ _ => rfl, fun _ _ => rfl⟩
theorem Agree.trans {Γ'' : Ctx} (h : Agree Γ Γ') (k : Agree Γ' Γ'') : Agree Γ Γ'' :=
  ⟨fun b hb => k.C b (h.C b hb), fun i hi => k.A i (h.A i hi), fun i hi => (k.ρ i (h.A i hi)).trans (h.ρ i hi), fun i hi => (k.ez i (h.A i hi)).trans (h.ez i hi), fun i hi => (k.bs i (h.A i hi)).trans (h.bs i hi)⟩
theorem Agree.adr (h : Agree Γ Γ') {id i j : Nat} (hA : Γ.A id) : adr Γ' id i j = adr Γ id i j := by simp [Dv.adr, h.ρ id hA, h.ez id hA]
theorem atom_mono (h : Agree Γ Γ') {d : D} {v : Value} (hd : atom Γ d v) : atom Γ' d v := by
  cases d <;> simp only [atom] at hd ⊢ <;> try exact hd
  case nsl b => cases b <;> exact hd
  case ms id off len cap ex =>
    obtain ⟨hA, a, c, hv, h1, h2, h3, h4, h5, h6⟩ := hd
    exact ⟨h.A _ hA, a, c, hv, h1, h2, h3, by rw [h.adr hA]; exact h4, by rw [h.ez _ hA, h.bs _ hA]; exact h5, h6⟩
  case ptr id i j => exact ⟨h.A _ hd.1, by rw [h.adr hd.1]; exact hd.2⟩
  case mp id => exact ⟨h.A _ hd.1, by rw [h.ρ _ hd.1]; exact hd.2⟩
/-- The blocks of C are as they were. -/
def SameC (Γ : Ctx) (w w' : World) : Prop := ∀ b, Γ.C b → w'.heap[b]? = w.heap[b]?
theorem SameC.cell (h : SameC Γ w w') {b o : Nat} (hb : Γ.C b) : w'.cell? ⟨b, o, none⟩ = w.cell? ⟨b, o, none⟩ := World.cell?_of_block (h b hb)
theorem R.mono (ha : Agree Γ Γ') (hs : SameC Γ w w') {m : Option Nat} {ds : List D} {vs : List Value} (h : R Γ w m ds vs) : R Γ' w' m ds vs := by
  induction h with
  | nil m => exact .nil m
  | atom h _ ih => exact .atom (atom_mono ha h) ih
  | agg _ hl _ ih1 ih2 => exact .agg ih1 hl ih2
  | tup _ _ ih1 ih2 => exact .tup ih1 ih2
  | fn _ _ _ ih1 ih2 ih3 => exact .fn ih1 ih2 ih3
  | sl hp hn hc hf _ hz had _ ih1 ih2 =>
    refine .sl hp hn hc hf ih1 hz (fun hne => ?_) ih2
    obtain ⟨b, o, e, hC, hk⟩ := had hne
    exact ⟨b, o, e, ha.C b hC, fun k u hu => (hs.cell hC).trans (hk k u hu)⟩
  | cpt hp he _ hC hk _ ih1 ih2 => exact .cpt hp he ih1 (ha.C _ hC) (fun k u hu => (hs.cell hC).trans (hk k u hu)) ih2
  | elem hx _ hl _ ih1 ih2 => exact .elem hx ih1 hl ih2
/-- Data hangs on C alone. -/
def freeM : Option Nat → D → Bool
  | none, d => d.free
  | some _, d => d.pure
theorem pleaf_free {d : D} (h : d.pleaf = true) : d.free = true := by cases d <;> first | (exact h) | (cases h)
theorem pure_cells {x : D} (h : x.pure = true) : x.cells.all D.free = true := by
  cases x with
  | agg ds => simp only [D.pure, List.all_eq_true] at h; simp only [D.cells, List.all_eq_true]; exact fun d hd => pleaf_free (h d hd)
  | fn => cases h
  | _ => simp_all [D.pure, D.cells, D.free]
theorem free_agg {es : List D} (h : (D.agg es).free = true) : es.all D.free = true := by
  simp only [D.free, D.pure, List.all_eq_true] at h ⊢
  exact fun d hd => pleaf_free (h d hd)
theorem atom_free {d : D} {v : Value} (hd : d.free = true) (h : atom Γ d v) : atom Γ' d v := by
  cases d <;> simp_all [D.free, D.pure, D.pleaf, atom]
theorem R.free (hC : ∀ b, Γ.C b → Γ'.C b) (hs : SameC Γ w w') {m : Option Nat} {ds : List D} {vs : List Value} (h : R Γ w m ds vs) (hd : ds.all (freeM m) = true) : R Γ' w' m ds vs := by
  induction h with
  | nil m => exact .nil m
  | atom h _ ih => simp only [List.all_cons, Bool.and_eq_true] at hd; exact .atom (atom_free hd.1 h) (ih hd.2)
  | agg _ hl _ ih1 ih2 => simp only [List.all_cons, Bool.and_eq_true] at hd; exact .agg (ih1 (free_agg hd.1)) hl (ih2 hd.2)
  | tup _ _ ih1 ih2 => simp [freeM, D.free, D.pure, D.pleaf] at hd
  | fn _ _ _ ih1 ih2 ih3 =>
    simp only [List.all_cons, Bool.and_eq_true, freeM, D.free, List.isEmpty_iff] at hd
    obtain ⟨⟨rfl, rfl⟩, h3⟩ := hd
    exact .fn (ih1 rfl) (ih2 rfl) (ih3 h3)
  | sl hp hn hc hf _ hz had _ ih1 ih2 =>
    simp only [List.all_cons, Bool.and_eq_true] at hd
    refine .sl hp hn hc hf (ih1 hp) hz (fun hne => ?_) (ih2 hd.2)
    obtain ⟨b, o, e, hb, hk⟩ := had hne
    exact ⟨b, o, e, hC b hb, fun k u hu => (hs.cell hb).trans (hk k u hu)⟩
  | cpt hp he _ hb hk _ ih1 ih2 => simp [freeM, D.free, D.pure, D.pleaf] at hd
  | elem hx _ hl _ ih1 ih2 =>
    simp only [List.all_cons, Bool.and_eq_true] at hd
    exact .elem hx (ih1 (pure_cells hd.1)) hl (ih2 hd.2)

/-! ### the store -/
def Own (Γ : Ctx) (σ : Store) (b : Nat) : Prop := ∃ id e xs, σ.obj id = some (.row .own e xs) ∧ Γ.ρ id = b
/-- A row's elements, and what lies behind them: some cells. -/
structure RE (Γ : Ctx) (w : World) (esz : Nat) (xs : List D) (us rest : List Value) : Prop where
  r : R Γ w (some esz) xs us
  one : ∀ u ∈ rest, u.oneCell' = true
theorem RE.mono {esz : Nat} {xs : List D} {us rest : List Value} (h : RE Γ w esz xs us rest) (ha : Agree Γ Γ') (hc : SameC Γ w w') : RE Γ' w' esz xs us rest := ⟨h.r.mono ha hc, h.one⟩
def RowR (Γ : Ctx) (w : World) (id : Nat) (esz : Nat) (xs : List D) : Prop :=
  esz = Γ.ez id ∧ 0 < esz ∧ ∃ c e us rest, w.heap[Γ.ρ id]? = some (.cells c e (0, 0)) ∧ c.size = Γ.bs id ∧ c.toList = us ++ rest ∧ RE Γ w esz xs us rest
structure SR (Γ : Ctx) (σ : Store) (w : World) : Prop where
  row : ∀ id st esz xs, σ.obj id = some (.row st esz xs) → RowR Γ w id esz xs ∧ (st = .own → ¬ Γ.C (Γ.ρ id)) ∧ (st = .cst → Γ.C (Γ.ρ id))
  nomap : ∀ id st kvs, σ.obj id ≠ some (.map st kvs)
  inj : ∀ id id' o o', σ.obj id = some o → σ.obj id' = some o' → Γ.ρ id = Γ.ρ id' → id = id'
  live : ∀ id o, σ.obj id = some o → Γ.A id
  old : ∀ b, Γ.C b → b < w.heap.size
  below : ∀ id, Γ.A id → id < σ.length
/-- From one state to a later one. -/
structure Tr (Γ : Ctx) (σ : Store) (w : World) (Γ' : Ctx) (σ' : Store) (w' : World) : Prop where
  agree : Agree Γ Γ'
  cnew : ∀ b, Γ'.C b → Γ.C b ∨ w.heap.size ≤ b ∨ Own Γ σ b
  own : ∀ b, Own Γ' σ' b → Own Γ σ b ∨ w.heap.size ≤ b
  kept : ∀ b, b < w.heap.size → ¬ Own Γ σ b → w'.heap[b]? = w.heap[b]?
  os : w'.os = w.os
  tape : w'.tape = w.tape
  output : w'.output = w.output
  size : w.heap.size ≤ w'.heap.size
theorem Tr.refl (Γ : Ctx) (σ : Store) (w : World) : Tr Γ σ w Γ σ w := ⟨.refl _, fun _ h => .inl h, fun _ h => .inl h, fun _ _ _ => rfl, rfl, rfl, rfl, Nat.le_refl _⟩
theorem Tr.trans {Γ1 Γ2 Γ3 : Ctx} {σ1 σ2 σ3 : Store} {w1 w2 w3 : World} (h : Tr Γ1 σ1 w1 Γ2 σ2 w2) (k : Tr Γ2 σ2 w2 Γ3 σ3 w3) : Tr Γ1 σ1 w1 Γ3 σ3 w3 where
  agree := h.agree.trans k.agree
  cnew b hb := by
    rcases k.cnew b hb with hb | hb | hb
    · exact h.cnew b hb
    · exact .inr (.inl (Nat.le_trans h.size hb))
    · rcases h.own b hb with hb | hb
      · exact .inr (.inr hb)
      · exact .inr (.inl hb)
  own b hb := by
    rcases k.own b hb with hb | hb
    · exact h.own b hb
    · exact .inr (Nat.le_trans h.size hb)
  kept b hb hn := by
    refine (k.kept b (Nat.lt_of_lt_of_le hb h.size) fun ho => ?_).trans (h.kept b hb hn)
    rcases h.own b ho with ho | ho
    · exact hn ho
    · omega
  os := k.os.trans h.os
  tape := k.tape.trans h.tape
  output := k.output.trans h.output
  size := Nat.le_trans h.size k.size
theorem SR.notOwn {σ : Store} (h : SR Γ σ w) {b : Nat} (hb : Γ.C b) : ¬ Own Γ σ b := by
  rintro ⟨id, e, xs, ho, rfl⟩
  exact (h.row _ _ _ _ ho).2.1 rfl hb
theorem Tr.sameC {σ σ' : Store} (h : Tr Γ σ w Γ' σ' w') (hs : SR Γ σ w) : SameC Γ w w' := fun b hb => h.kept b (hs.old b hb) (hs.notOwn hb)
theorem Tr.R {σ σ' : Store} (h : Tr Γ σ w Γ' σ' w') (hs : SR Γ σ w) {m : Option Nat} {ds : List D} {vs : List Value} (hr : R Γ w m ds vs) : R Γ' w' m ds vs := hr.mono h.agree (h.sameC hs)
end
end Go.Proofs.Ytgibpomhiilehaa.Dv
