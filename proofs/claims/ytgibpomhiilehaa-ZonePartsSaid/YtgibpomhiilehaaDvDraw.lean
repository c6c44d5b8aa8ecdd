/- A region by its indices; what stands in no order may be taken first. -/
import Derived.Test.YtgibpomhiilehaaDvSwap
set_option linter.unusedVariables false
set_option linter.unusedSimpArgs false
namespace Go.Proofs.Ytgibpomhiilehaa.Dv
open Go

section
variable {P : Program} {M : Modes} {call : CallF} {ops : Array Oper}

/-! ### two steps -/
theorem obj_putn {σ : Store} {a b : Nat} {o : Option Ob} (h : a ≠ b) : (σ.put a o).obj b = σ.obj b := by
  simp [Store.obj, Store.put, List.getElem?_set_ne h]
theorem put_swap {σ : Store} {a b : Nat} {o q : Option Ob} (h : a ≠ b) : (σ.put a o).put b q = (σ.put b q).put a o := by
  simp [Store.put, List.set_comm _ _ h]
theorem Same1.refl (σ : Store) (id : Nat) : Same1 σ σ id := fun st e xs h => ⟨st, h⟩
theorem Same1.put {σ : Store} {a b : Nat} {o : Option Ob} (h : a ≠ b) : Same1 σ (σ.put a o) b ∧ Same1 (σ.put a o) σ b := by
  constructor
  · intro st e xs k; exact ⟨st, by rw [obj_putn h]; exact k⟩
  · intro st e xs k; exact ⟨st, by rw [obj_putn h] at k; exact k⟩
abbrev StepF := Store → Option (D × Store × Foot)
theorem comm_feet {F G : StepF} {σ σ1 σ2 : Store} {u v : D} {f g : Foot} (hF : F σ = some (u, σ1, f)) (hG : G σ1 = some (v, σ2, g)) (lF : Local F σ u σ1 f) (lG : Local G σ1 v σ2 g) (hfit : f.fits g = true) :
    ∃ τ, G σ = some (v, τ, g) ∧ F τ = some (u, σ2, f) := by
  cases f with
  | none =>
    obtain ⟨rfl, k⟩ := lF
    exact ⟨_, hG, k _⟩
  | rd a =>
    obtain ⟨rfl, k⟩ := lF
    cases g with
    | none => obtain ⟨rfl, l⟩ := lG; exact ⟨_, hG, hF⟩
    | rd b => obtain ⟨rfl, l⟩ := lG; exact ⟨_, hG, hF⟩
    | wr b =>
      obtain ⟨o, rfl, l⟩ := lG
      exact ⟨_, hG, k _ (Same1.put (by simpa [Foot.fits, ne_comm] using hfit)).1⟩
    | new b =>
      obtain ⟨o, rfl, l⟩ := lG
      exact ⟨_, hG, k _ (Same1.put (by simpa [Foot.fits, ne_comm] using hfit)).1⟩
    | _ => cases hfit
  | wr a =>
    obtain ⟨o, rfl, k⟩ := lF
    cases g with
    | none => obtain ⟨rfl, l⟩ := lG; exact ⟨_, l _, hF⟩
    | rd b =>
      obtain ⟨rfl, l⟩ := lG
      exact ⟨_, l _ (Same1.put (by simpa [Foot.fits, ne_comm] using hfit)).2, hF⟩
    | wr b =>
      obtain ⟨q, rfl, l⟩ := lG
      have hne : a ≠ b := by simpa [Foot.fits] using hfit
      exact ⟨_, l _ (obj_putn hne).symm, by rw [k _ (obj_putn (Ne.symm hne)), put_swap hne]⟩
    | new b =>
      obtain ⟨q, rfl, l⟩ := lG
      have hne : a ≠ b := by simpa [Foot.fits] using hfit
      exact ⟨_, l _, by rw [k _ (obj_putn (Ne.symm hne)), put_swap hne]⟩
    | _ => cases hfit
  | new a =>
    obtain ⟨o, rfl, k⟩ := lF
    cases g with
    | none => obtain ⟨rfl, l⟩ := lG; exact ⟨_, l _, hF⟩
    | rd b =>
      obtain ⟨rfl, l⟩ := lG
      exact ⟨_, l _ (Same1.put (by simpa [Foot.fits, ne_comm] using hfit)).2, hF⟩
    | wr b =>
      obtain ⟨q, rfl, l⟩ := lG
      have hne : a ≠ b := by simpa [Foot.fits] using hfit
      exact ⟨_, l _ (obj_putn hne).symm, by rw [k, put_swap hne]⟩
    | new b =>
      obtain ⟨q, rfl, l⟩ := lG
      have hne : a ≠ b := by simpa [Foot.fits] using hfit
      exact ⟨_, l _, by rw [k, put_swap hne]⟩
    | _ => cases hfit
  | rdAll => cases g with
    | none => obtain ⟨rfl, l⟩ := lG; exact ⟨_, l _, hF⟩
    | _ => cases hfit
  | wrAll => cases g with
    | none => obtain ⟨rfl, l⟩ := lG; exact ⟨_, l _, hF⟩
    | _ => cases hfit
  | call ids => cases g with
    | none => obtain ⟨rfl, l⟩ := lG; exact ⟨_, l _, hF⟩
    | _ => cases hfit
def SameAll (σ σ' : Store) : Prop := ∀ id, Same1 σ σ' id ∧ Same1 σ' σ id
theorem SameAll.refl (σ : Store) : SameAll σ σ := fun id => ⟨.refl _ _, .refl _ _⟩
theorem Same1.trans {σ σ' σ'' : Store} {id : Nat} (h : Same1 σ σ' id) (k : Same1 σ' σ'' id) : Same1 σ σ'' id := fun st e xs ho => by
  obtain ⟨st', h'⟩ := h _ _ _ ho
  exact k _ _ _ h'
theorem SameAll.trans {σ σ' σ'' : Store} (h : SameAll σ σ') (k : SameAll σ' σ'') : SameAll σ σ'' := fun id => ⟨(h id).1.trans (k id).1, (k id).2.trans (h id).2⟩
def Foot.reads : Foot → Bool
  | .none | .rd _ => true
  | _ => false
theorem comm_call_read {F G : StepF} {σ σ1 σ2 : Store} {u v : D} {f g : Foot} (hF : F σ = some (u, σ1, f)) (hG : G σ1 = some (v, σ2, g)) (lG : Local G σ1 v σ2 g) (hs : SameAll σ σ1) (hg : g.reads = true) :
    ∃ τ, G σ = some (v, τ, g) ∧ F τ = some (u, σ2, f) := by
  cases g with
  | none => obtain ⟨rfl, l⟩ := lG; exact ⟨_, l _, hF⟩
  | rd b => obtain ⟨rfl, l⟩ := lG; exact ⟨_, l _ (hs b).2, hF⟩
  | _ => cases hg
theorem comm_read_call {F G : StepF} {σ σ1 σ2 : Store} {u v : D} {f g : Foot} (hF : F σ = some (u, σ1, f)) (hG : G σ1 = some (v, σ2, g)) (lF : Local F σ u σ1 f) (hs : SameAll σ1 σ2) (hf : f.reads = true) :
    ∃ τ, G σ = some (v, τ, g) ∧ F τ = some (u, σ2, f) := by
  cases f with
  | none => obtain ⟨rfl, l⟩ := lF; exact ⟨_, hG, l _⟩
  | rd b => obtain ⟨rfl, l⟩ := lF; exact ⟨_, hG, l _ (hs b).1⟩
  | _ => cases hf

/-! ### a call that hands back data alone -/
theorem obj_put_eq {σ : Store} {a : Nat} {o o' : Ob} (h : σ.obj a = some o) : (σ.put a (some o')).obj a = some o' := by
  have hlt : a < σ.length := by
    rcases Nat.lt_or_ge a σ.length with h' | h'
    · exact h'
    · simp [Store.obj, List.getElem?_eq_none h'] at h
  simp [Store.obj, Store.put, hlt]
theorem seal_same {σ : Store} {i : Nat} {o : Ob} (ho : σ.obj i = some o) : SameAll σ (σ.put i (some (sealOb o))) := by
  intro id
  by_cases h : i = id
  · subst h
    constructor
    · intro st e xs k
      rw [ho] at k
      injection k with k
      subst k
      rw [obj_put_eq ho]
      cases st <;> exact ⟨_, rfl⟩
    · intro st e xs k
      rw [obj_put_eq ho] at k
      injection k with k
      rw [ho]
      cases o with
      | row st' e' xs' => cases st' <;> (simp only [sealOb] at k; injection k with k1 k2 k3; subst k2 k3; exact ⟨_, rfl⟩)
      | map => simp [sealOb] at k
  · exact Same1.put h
theorem sealed_same : ∀ (lent : List Nat) (σ : Store), SameAll σ (σ.sealed lent)
  | [], σ => .refl σ
  | i :: lent, σ => by
    unfold Store.sealed
    rw [List.foldl_cons]
    cases ho : σ.obj i with
    | none => exact sealed_same lent σ
    | some o => exact (seal_same ho).trans (sealed_same lent _)
theorem behind_same {σ σ' : Store} {lent : List Nat} {r : D} (h : σ.behind lent r = some σ') : SameAll σ σ' := by
  unfold Store.behind at h
  split at h
  · injection h with h; subst h; exact .refl _
  · split at h
    · injection h with h; subst h; exact sealed_same _ _
    · cases h
theorem roEnd_some {c : Bool} {σ σ' : Store} {q : D × Store} {r : D} (h : roEnd c σ q = some (r, σ')) : r = q.1 ∧ σ' = σ ∧ (c = true → q.1.flat = true ∧ sameS σ q.2 = true) := by
  unfold roEnd at h
  split at h
  · cases h
  · rename_i hn
    injection h with h; injection h with h1 h2
    refine ⟨h1.symm, h2.symm, fun hc => ?_⟩
    subst hc
    simpa using hn
theorem callD_same {run : CallF} {f : FuncId} {as : List D} {σ σ' : Store} {r : D} (hp : M.prim f = none) (hb : M.byref f = false ∨ M.ro f = true) (h : callD M run f as σ = some (r, σ')) : SameAll σ σ' := by
  unfold callD at h
  cases hbb : M.byref f with
  | true =>
    have hro := hb.resolve_left (by rw [hbb]; decide)
    simp only [hp, hbb, hro, if_true] at h
    obtain ⟨q, _, he⟩ := Option.bind_eq_some_iff.1 h
    rw [(roEnd_some he).2.1]
    exact .refl _
  | false =>
  simp only [hp, hbb, Bool.false_eq_true, if_false] at h
  split at h
  · split at h
    · split at h
      · obtain ⟨τ, hτ, e⟩ := Option.map_eq_some_iff.1 h
        injection e with e1 e2
        subst e2
        exact behind_same hτ
      · cases h
    · cases h
  · cases h

/-! ### a call and a new place -/
theorem obj_put_o {σ : Store} {a b : Nat} {o : Option Ob} (h : b ≠ a) : (σ.put a o).obj b = σ.obj b := obj_putn (Ne.symm h)
theorem lendLeaf_ms (σ : Store) (id off len cap : Nat) (ex : Bool) : lendLeaf σ (.ms id off len cap ex) = match σ.obj id with
    | some (.row _ _ xs) => if off + len ≤ xs.length ∧ ((xs.drop off).take len).all D.pure then (.sl (ex && decide (cap = len)) ((xs.drop off).take len), [id]) else (.ms id off len cap ex, [])
    | _ => (.ms id off len cap ex, []) := rfl
theorem lendLeaf_ms_cases (σ : Store) (id off len cap : Nat) (ex : Bool) : (lendLeaf σ (.ms id off len cap ex)).2 = [id] ∨ (lendLeaf σ (.ms id off len cap ex)).1 = .ms id off len cap ex := by
  rw [lendLeaf_ms]
  cases σ.obj id with
  | none => exact .inr rfl
  | some o =>
    cases o with
    | map => exact .inr rfl
    | row st e xs =>
      simp only
      split
      · exact .inl rfl
      · exact .inr rfl
theorem lendLeaf_ms_put {σ : Store} {aid id off len cap : Nat} {ex : Bool} {o : Option Ob} (hf : (lendLeaf σ (.ms id off len cap ex)).1 ≠ .ms id off len cap ex) (hid : aid ∉ (lendLeaf σ (.ms id off len cap ex)).2) : lendLeaf (σ.put aid o) (.ms id off len cap ex) = lendLeaf σ (.ms id off len cap ex) := by
  have h2 := (lendLeaf_ms_cases σ id off len cap ex).resolve_right hf
  rw [h2] at hid
  have hne : id ≠ aid := fun e => hid (e ▸ List.mem_singleton_self _)
  rw [lendLeaf_ms, lendLeaf_ms, obj_put_o hne]
theorem lendLeaf_put {σ : Store} {aid : Nat} {o : Option Ob} {d : D} (hf : (lendLeaf σ d).1.pleaf = true) (hid : aid ∉ (lendLeaf σ d).2) : lendLeaf (σ.put aid o) d = lendLeaf σ d := by
  cases d with
  | ms id off len cap ex => exact lendLeaf_ms_put (fun e => by rw [e] at hf; cases hf) hid
  | _ => rfl
theorem lend_put {σ : Store} {aid : Nat} {o : Option Ob} {d : D} (hf : (lend σ d).1.free = true) (hid : aid ∉ (lend σ d).2) : lend (σ.put aid o) d = lend σ d := by
  cases d with
  | agg ds =>
    have hf' : (ds.map fun d => (lendLeaf σ d).1).all D.pleaf = true := hf
    have hid' : ∀ x ∈ ds, aid ∉ (lendLeaf σ x).2 := fun x hx hm => hid (List.mem_flatMap.2 ⟨x, hx, hm⟩)
    rw [List.all_map, List.all_eq_true] at hf'
    have e : ∀ x ∈ ds, lendLeaf (σ.put aid o) x = lendLeaf σ x := fun x hx => lendLeaf_put (hf' x hx) (hid' x hx)
    show (D.agg (ds.map fun d => (lendLeaf (σ.put aid o) d).1), ds.flatMap fun d => (lendLeaf (σ.put aid o) d).2) = (D.agg (ds.map fun d => (lendLeaf σ d).1), ds.flatMap fun d => (lendLeaf σ d).2)
    rw [List.map_congr_left fun x hx => by rw [e x hx]]
    congr 1
    clear hf hid hf' hid'
    induction ds with
    | nil => rfl
    | cons x ds ih => rw [List.flatMap_cons, List.flatMap_cons, e x (List.mem_cons_self ..), ih fun y hy => e y (List.mem_cons_of_mem _ hy)]
  | ms id off len cap ex => exact lendLeaf_ms_put (fun e => by have hf : (lendLeaf σ (.ms id off len cap ex)).1.free = true := hf; rw [e] at hf; cases hf) hid
  | _ => rfl
theorem sealed_put {aid : Nat} {o : Option Ob} : ∀ {ids : List Nat} {σ : Store}, aid ∉ ids → (σ.put aid o).sealed ids = (σ.sealed ids).put aid o
  | [], σ, _ => rfl
  | i :: ids, σ, h => by
    have hi : i ≠ aid := fun e => h (e ▸ List.mem_cons_self ..)
    have hr : aid ∉ ids := fun e => h (List.mem_cons_of_mem _ e)
    show Store.sealed (match (σ.put aid o).obj i with | some q => (σ.put aid o).put i (some (sealOb q)) | none => σ.put aid o) ids = (Store.sealed (match σ.obj i with | some q => σ.put i (some (sealOb q)) | none => σ) ids).put aid o
    rw [obj_put_o hi]
    cases σ.obj i with
    | none => exact sealed_put hr
    | some q =>
      simp only
      rw [put_swap (Ne.symm hi)]
      exact sealed_put hr
theorem behind_put {aid : Nat} {o : Option Ob} {ids : List Nat} {σ σ1 : Store} {r : D} (hid : aid ∉ ids) (h : σ.behind ids r = some σ1) : (σ.put aid o).behind ids r = some (σ1.put aid o) := by
  unfold Store.behind at h ⊢
  split at h
  · rename_i hc; rw [if_pos hc]; injection h with h; rw [h]
  · rename_i hc
    rw [if_neg hc]
    split at h
    · rename_i ha
      injection h with h
      have : ids.all (σ.put aid o).mayseal = true := by
        rw [List.all_eq_true] at ha ⊢
        intro x hx
        have := ha x hx
        unfold Store.mayseal at this ⊢
        rw [obj_put_o (fun e : x = aid => hid (e ▸ hx))]
        exact this
      rw [if_pos this, sealed_put hid, h]
    · cases h
theorem callD_put {run : CallF} {f : FuncId} {as : List D} {σ σ' : Store} {r : D} {aid : Nat} {o : Option Ob} (hp : M.prim f = none) (hb : M.byref f = false) (h : callD M run f as σ = some (r, σ')) (hid : aid ∉ as.flatMap fun d => (lend σ d).2) :
    callD M run f as (σ.put aid o) = some (r, σ'.put aid o) ∧ (as.flatMap fun d => (lend (σ.put aid o) d).2) = as.flatMap fun d => (lend σ d).2 := by
  unfold callD at h ⊢
  simp only [hp, hb, Bool.false_eq_true, if_false] at h ⊢
  split at h
  case isFalse => cases h
  rename_i hfree
  have e : ∀ x ∈ as, lend (σ.put aid o) x = lend σ x := by
    intro x hx
    rw [List.all_map, List.all_eq_true] at hfree
    exact lend_put (hfree x hx) fun hm => hid (List.mem_flatMap.2 ⟨x, hx, hm⟩)
  have e1 : (as.map fun d => (lend (σ.put aid o) d).1) = as.map fun d => (lend σ d).1 := List.map_congr_left fun x hx => by rw [e x hx]
  have e2 : (as.flatMap fun d => (lend (σ.put aid o) d).2) = as.flatMap fun d => (lend σ d).2 := by
    clear h hid hfree e1
    induction as with
    | nil => rfl
    | cons x as ih => rw [List.flatMap_cons, List.flatMap_cons, e x (List.mem_cons_self ..), ih fun y hy => e y (List.mem_cons_of_mem _ hy)]
  rw [e1, e2, if_pos hfree]
  refine ⟨?_, rfl⟩
  split at h
  · rename_i r0 τ hr
    split at h
    · rename_i r' hf
      obtain ⟨s, hs, he⟩ := Option.map_eq_some_iff.1 h
      injection he with h1 h2
      subst h1 h2
      rw [behind_put hid hs]
      rfl
    · cases h
  · cases h
theorem behind_other {ids : List Nat} {σ σ1 : Store} {r : D} {aid : Nat} (hid : aid ∉ ids) (h : σ.behind ids r = some σ1) : σ1[aid]? = σ[aid]? := by
  have key : ∀ (ids : List Nat) (σ : Store), aid ∉ ids → (σ.sealed ids)[aid]? = σ[aid]? := by
    intro ids
    induction ids with
    | nil => intro σ _; rfl
    | cons i ids ih =>
      intro σ h
      have hi : i ≠ aid := fun e => h (e ▸ List.mem_cons_self ..)
      have hr : aid ∉ ids := fun e => h (List.mem_cons_of_mem _ e)
      show (Store.sealed (match σ.obj i with | some q => σ.put i (some (sealOb q)) | none => σ) ids)[aid]? = _
      rw [ih _ hr]
      cases σ.obj i with
      | none => rfl
      | some q => exact List.getElem?_set_ne hi
  unfold Store.behind at h
  split at h
  · injection h with h; rw [h]
  · split at h
    · injection h with h; rw [← h]; exact key ids σ hid
    · cases h
theorem callD_other {run : CallF} {f : FuncId} {as : List D} {σ σ' : Store} {r : D} {aid : Nat} (hp : M.prim f = none) (hb : M.byref f = false) (h : callD M run f as σ = some (r, σ')) (hid : aid ∉ as.flatMap fun d => (lend σ d).2) : σ'[aid]? = σ[aid]? := by
  unfold callD at h
  simp only [hp, hb, Bool.false_eq_true, if_false] at h
  split at h
  case isFalse => cases h
  split at h
  · split at h
    · obtain ⟨s, hs, he⟩ := Option.map_eq_some_iff.1 h
      injection he with h1 h2
      subst h2
      exact behind_other hid hs
    · cases h
  · cases h

/-! ### the classes -/
theorem stepW_cases {o : Oper} {aid : Nat} {e : Env} {σ : Store} {v : D} {s : Store} {f : Foot} (h : stepW P call ops o aid e σ = some (v, s, f)) :
    (f = .none ∧ s = σ) ∨ step P call o e aid σ = some (v, s, f) := by
  unfold stepW at h
  split at h
  · exact .inr h
  · injection h with h; injection h with h1 h; injection h with h2 h3; exact .inl ⟨h3.symm, h2.symm⟩
  · cases h
theorem readOp_reads {G : Option (D × Foot)} {σ : Store} {r : D × Store × Foot} (hG : ∀ v f, G = some (v, f) → f.reads = true) (h : (G.map fun r => (r.1, σ, r.2)) = some r) : r.2.2.reads = true := by
  obtain ⟨⟨v, f⟩, hv, rfl⟩ := Option.map_eq_some_iff.1 h
  exact hG _ _ hv
theorem reads_of {G : Store → Option (D × Foot)} (hG : ∀ σ v f, G σ = some (v, f) → (f = .none ∧ ∀ σ', G σ' = some (v, .none)) ∨ (∃ id, f = .rd id ∧ ∀ σ', Same1 σ σ' id → G σ' = some (v, .rd id))) (σ : Store) :
    ∀ v f, G σ = some (v, f) → f.reads = true := fun v f h => by
  rcases hG _ _ _ h with ⟨rfl, _⟩ | ⟨id, rfl, _⟩ <;> rfl
theorem pureOp_none {G : Option D} {σ : Store} {r : D × Store × Foot} (h : (G.map fun d => (d, σ, Foot.none)) = some r) : r.2.2 = .none := by
  obtain ⟨v, hv, rfl⟩ := Option.map_eq_some_iff.1 h
  rfl
theorem builtin_none {b : Builtin} (hb : b = .len ∨ b = .cap ∨ b = .max ∨ b = .min) {ats : List TypeId} {xs : List D} {aid : Nat} {σ : Store} {r : D × Store × Foot} (h : evBuiltin P b ats xs aid σ = some r) : r.2.2 = .none := by
  unfold evBuiltin at h
  split at h
  · split at h
    · split at h
      · injection h with h; subst h; rfl
      · cases h
    · split at h
      · obtain ⟨n, hn, rfl⟩ := Option.map_eq_some_iff.1 h; rfl
      · obtain ⟨n, hn, rfl⟩ := Option.map_eq_some_iff.1 h; rfl
      · cases h
    · cases h
  · split at h
    · obtain ⟨n, hn, rfl⟩ := Option.map_eq_some_iff.1 h; rfl
    · cases h
  · rcases hb with h | h | h | h <;> cases h
  · rcases hb with h | h | h | h <;> cases h
  · rcases hb with h | h | h | h <;> cases h
  · obtain ⟨n, hn, rfl⟩ := Option.map_eq_some_iff.1 h; rfl
  · obtain ⟨n, hn, rfl⟩ := Option.map_eq_some_iff.1 h; rfl
  · cases h
theorem cls_q {o : Oper} (hc : cls o = .q) {e : Env} {aid : Nat} {σ : Store} {r : D × Store × Foot} (h : step P call o e aid σ = some r) : r.2.2 = .none := by
  obtain ⟨dst, op, type, pos, after, guard⟩ := o
  cases op
  case call c =>
    obtain ⟨callee, as, ts⟩ := c
    cases callee
    case builtin b =>
      rw [step_other rfl] at h
      simp only [evOp] at h
      refine builtin_none (b := b) ?_ h
      cases b <;> simp only [cls] at hc <;> first | (cases hc; done) | simp
    case value f => cases f <;> simp only [cls] at hc <;> cases hc
    all_goals (simp only [cls] at hc; cases hc)
  case pick c a b =>
    rw [step_other rfl] at h
    simp only [evOp] at h
    split at h
    · injection h with h; subst h; rfl
    · cases h
  case nilCheck x =>
    rw [step_other rfl] at h
    simp only [evOp] at h
    split at h
    · injection h with h; subst h; rfl
    · injection h with h; subst h; rfl
    · injection h with h; subst h; rfl
    · cases h
  case extract x ix =>
    rw [step_other rfl] at h
    simp only [evOp] at h
    split at h
    · split at h
      · injection h with h; subst h; rfl
      · cases h
    · cases h
  case makeFunc fn first caps =>
    rw [step_other rfl] at h
    cases fn <;> simp only [evOp] at h
    case func f => injection h with h; subst h; rfl
    all_goals cases h
  case move => rw [step_other rfl] at h; injection h with h; subst h; rfl
  case assign => rw [step_other rfl] at h; injection h with h; subst h; rfl
  case build => rw [step_other rfl] at h; exact pureOp_none h
  case binOp => rw [step_other rfl] at h; exact pureOp_none h
  case unOp => rw [step_other rfl] at h; exact pureOp_none h
  case fieldAddr => rw [step_other rfl] at h; exact pureOp_none h
  case field => rw [step_other rfl] at h; exact pureOp_none h
  case index => rw [step_other rfl] at h; exact pureOp_none h
  all_goals (simp only [cls] at hc; cases hc)
theorem cls_r {o : Oper} (hc : cls o = .r) {e : Env} {aid : Nat} {σ : Store} {r : D × Store × Foot} (h : step P call o e aid σ = some r) : r.2.2.reads = true := by
  obtain ⟨dst, op, type, pos, after, guard⟩ := o
  cases op
  case call c =>
    obtain ⟨callee, as, ts⟩ := c
    cases callee
    case builtin b => cases b <;> simp only [cls] at hc <;> cases hc
    case value f => cases f <;> simp only [cls] at hc <;> cases hc
    all_goals (simp only [cls] at hc; cases hc)
  case load => rw [step_other rfl] at h; exact readOp_reads (reads_of load_local σ) h
  case indexAddr => rw [step_other rfl] at h; exact readOp_reads (reads_of indexAddr_local σ) h
  case slice => rw [step_other rfl] at h; exact readOp_reads (reads_of slice_local σ) h
  case convert => rw [step_other rfl] at h; exact readOp_reads (reads_of (fun σ v f h => conv_local σ v f h) _) h
  all_goals (simp only [cls] at hc; cases hc)
theorem cls_n {o : Oper} (hc : cls o = .n) {e : Env} {aid : Nat} {σ : Store} {r : D × Store × Foot} (h : step P call o e aid σ = some r) : r.2.2 = .new aid ∧ allocs o = true := by
  obtain ⟨dst, op, type, pos, after, guard⟩ := o
  cases op
  case call c =>
    obtain ⟨callee, as, ts⟩ := c
    cases callee
    case builtin b => cases b <;> simp only [cls] at hc <;> cases hc
    case value f => cases f <;> simp only [cls] at hc <;> cases hc
    all_goals (simp only [cls] at hc; cases hc)
  case alloc =>
    rw [step_other rfl] at h
    simp only [evOp] at h
    split at h
    · injection h with h; subst h; exact ⟨rfl, rfl⟩
    · cases h
  case box =>
    rw [step_other rfl] at h
    simp only [evOp] at h
    split at h
    · injection h with h; subst h; exact ⟨rfl, rfl⟩
    · cases h
  case buildSlice =>
    rw [step_other rfl] at h
    simp only [evOp, evBuildSlice] at h
    split at h
    · split at h
      · obtain ⟨xs, hx, rfl⟩ := Option.map_eq_some_iff.1 h; exact ⟨rfl, rfl⟩
      · cases h
    · cases h
  case makeSlice =>
    rw [step_other rfl] at h
    simp only [evOp, evMakeSlice] at h
    split at h
    · split at h
      · injection h with h; subst h; exact ⟨rfl, rfl⟩
      · cases h
    · cases h
  all_goals (simp only [cls] at hc; cases hc)
theorem cls_c {o : Oper} {f : FuncId} (hc : cls o = .c f) : ∃ as ts, o.op = .call { callee := .value (.func f), args := as, argTypes := ts } := by
  obtain ⟨dst, op, type, pos, after, guard⟩ := o
  cases op
  case call c =>
    obtain ⟨callee, as, ts⟩ := c
    cases callee
    case builtin b => cases b <;> simp only [cls] at hc <;> cases hc
    case value g =>
      cases g <;> simp only [cls] at hc <;> cases hc
      exact ⟨_, _, rfl⟩
    all_goals (simp only [cls] at hc; cases hc)
  all_goals (simp only [cls] at hc; cases hc)
theorem cls_c_same {run : CallF} {o : Oper} {f : FuncId} (hc : cls o = .c f) (hp : M.prim f = none) (hb : M.byref f = false ∨ M.ro f = true) {e : Env} {aid : Nat} {σ : Store} {r : D × Store × Foot} (h : step P (callD M run) o e aid σ = some r) : SameAll σ r.2.1 := by
  obtain ⟨as, ts, ho⟩ := cls_c hc
  rw [step_go ho] at h
  split at h
  · rename_i g bs hg
    have : g = f := by
      simp only [evCallee, opnd] at hg
      injection hg with hg
      injection hg with h1 h2
      exact h1.symm
    subst this
    split at h
    · rename_i r' σ' hr
      injection h with h; subst h
      exact callD_same hp hb hr
    · cases h
  · cases h
/-- A call step, wherever it stands. -/
theorem cls_c_step {run : CallF} {o : Oper} {f : FuncId} (hc : cls o = .c f) {e : Env} {aid : Nat} {σ : Store} {r : D × Store × Foot} (h : step P (callD M run) o e aid σ = some r) :
    ∃ as, (∀ σ, step P (callD M run) o e aid σ = match callD M run f as σ with | some (r, σ') => some (r, σ', .call (as.flatMap fun d => (lend σ d).2)) | none => none) ∧ callD M run f as σ = some (r.1, r.2.1) ∧ r.2.2 = .call (as.flatMap fun d => (lend σ d).2) := by
  obtain ⟨as, ts, ho⟩ := cls_c hc
  have hst := fun σ => step_go (P := P) (call := callD M run) ho e aid σ
  rw [hst σ] at h
  split at h
  · rename_i g bs hg
    have : g = f := by
      simp only [evCallee, opnd] at hg
      injection hg with hg
      injection hg with h1 h2
      exact h1.symm
    subst this
    refine ⟨bs, fun σ => by rw [hst σ, hg]; rfl, ?_⟩
    split at h
    · rename_i r' σ' hr
      injection h with h; subst h
      exact ⟨hr, rfl⟩
    · cases h
  · cases h
end
end Go.Proofs.Ytgibpomhiilehaa.Dv
