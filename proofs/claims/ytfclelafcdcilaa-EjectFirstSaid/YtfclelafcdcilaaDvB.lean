/- An evaluator with value semantics over the model's own code (second part). -/
import Derived.Test.YtfclelafcdcilaaDvA
import Derived.Laws.Sem
import Derived.Scope
import Derived.ProofKit
import Derived.Below
import Derived.ChangeReads
import Derived.SizedLaws
/- A region by its indices; what stands in no order may be taken first. -/
set_option linter.unusedVariables false
set_option linter.unusedSimpArgs false
namespace Go.Proofs.Ytfclelafcdcilaa.Dv
open Go

section
variable {P : Program} {M : Modes} {call : CallF} {ops : Array Oper}

/-! ### two steps -/
theorem obj_putn {σ : Store} {a b : Nat} {o : Option Ob} (h : a ≠ b) : (σ.put a o).obj b = σ.obj b := by
  simp [Store.obj, Store.put, List.getElem?_set_ne h]
theorem put_swap {σ : Store} {a b : Nat} {o q : Option Ob} (h : a ≠ b) : (σ.put a o).put b q = (σ.put b q).put a o := by
  simp [Store.put, List.set_comm _ _ h]
theorem Same1.refl (σ : Store) (id : Nat) : Same1 σ σ id := fun st e xs h => ⟨st, h⟩
theorem Same1.put {σ : Store} {a b : Nat} {o : Option Ob} (h : a ≠ b) : Same1 σ (σ.put a o) b ∧ Same1 (σ.put a o) σ b := by
  constructor
  · intro st e xs k; exact ⟨st, by rw [obj_putn h]; exact k⟩
  · intro st e xs k; exact ⟨st, by rw [obj_putn h] at k; exact k⟩
theorem Same1.of_obj {σ σ' : Store} {id : Nat} (h : σ'.obj id = σ.obj id) : Same1 σ σ' id := fun st e xs k => ⟨st, by rw [h]; exact k⟩
theorem obj_puts {os : List (Nat × Option Ob)} {b : Nat} : ∀ {σ : Store}, b ∉ os.map (·.1) → (σ.puts os).obj b = σ.obj b := by
  induction os with
  | nil => intro σ _; rfl
  | cons p r ih =>
    intro σ h
    simp only [List.map_cons, List.mem_cons, not_or] at h
    show ((σ.put p.1 p.2).puts r).obj b = _
    rw [ih h.2, obj_putn (Ne.symm h.1)]
theorem puts_put {os : List (Nat × Option Ob)} {a : Nat} {o : Option Ob} : ∀ {σ : Store}, a ∉ os.map (·.1) → (σ.put a o).puts os = (σ.puts os).put a o := by
  induction os with
  | nil => intro σ _; rfl
  | cons p r ih =>
    intro σ h
    simp only [List.map_cons, List.mem_cons, not_or] at h
    show ((σ.put a o).put p.1 p.2).puts r = ((σ.put p.1 p.2).puts r).put a o
    rw [put_swap h.1, ih h.2]
theorem puts_puts {os qs : List (Nat × Option Ob)} : ∀ {σ : Store}, (∀ a ∈ os.map (·.1), a ∉ qs.map (·.1)) → (σ.puts os).puts qs = (σ.puts qs).puts os := by
  induction os with
  | nil => intro σ _; rfl
  | cons p r ih =>
    intro σ h
    simp only [List.map_cons, List.mem_cons, forall_eq_or_imp] at h
    show ((σ.put p.1 p.2).puts r).puts qs = ((σ.puts qs).put p.1 p.2).puts r
    rw [ih h.2, puts_put h.1]
theorem puts_length {os : List (Nat × Option Ob)} : ∀ {σ : Store}, (σ.puts os).length = σ.length := by
  induction os with
  | nil => intro σ; rfl
  | cons p r ih => intro σ; show ((σ.put p.1 p.2).puts r).length = _; rw [ih]; simp [Store.put]
abbrev StepF := Store → Option (D × Store × Foot)
theorem comm_feet {F G : StepF} {σ σ1 σ2 : Store} {u v : D} {f g : Foot} (hF : F σ = some (u, σ1, f)) (hG : G σ1 = some (v, σ2, g)) (lF : Local F σ u σ1 f) (lG : Local G σ1 v σ2 g) (hfit : f.fits g = true) :
    ∃ τ, G σ = some (v, τ, g) ∧ F τ = some (u, σ2, f) := by
  cases f with
  | none =>
    obtain ⟨rfl, k⟩ := lF
    exact ⟨_, hG, k _⟩
  | rd a =>
    obtain ⟨rfl, k⟩ := lF
    cases g with
    | none => obtain ⟨rfl, l⟩ := lG; exact ⟨_, hG, hF⟩
    | rd b => obtain ⟨rfl, l⟩ := lG; exact ⟨_, hG, hF⟩
    | wr b =>
      obtain ⟨o, rfl, l⟩ := lG
      exact ⟨_, hG, k _ (Same1.put (by simpa [Foot.fits, ne_comm] using hfit)).1⟩
    | new b =>
      obtain ⟨o, rfl, l⟩ := lG
      exact ⟨_, hG, k _ (Same1.put (by simpa [Foot.fits, ne_comm] using hfit)).1⟩
    | app r w =>
      obtain ⟨os, hw, rfl, l⟩ := lG
      have hn : a ∉ os.map (·.1) := by rw [hw]; simpa [Foot.fits] using hfit
      exact ⟨_, hG, k _ (.of_obj (obj_puts hn))⟩
    | _ => cases hfit
  | wr a =>
    obtain ⟨o, rfl, k⟩ := lF
    cases g with
    | none => obtain ⟨rfl, l⟩ := lG; exact ⟨_, l _, hF⟩
    | rd b =>
      obtain ⟨rfl, l⟩ := lG
      exact ⟨_, l _ (Same1.put (by simpa [Foot.fits, ne_comm] using hfit)).2, hF⟩
    | wr b =>
      obtain ⟨q, rfl, l⟩ := lG
      have hne : a ≠ b := by simpa [Foot.fits] using hfit
      exact ⟨_, l _ (obj_putn hne).symm, by rw [k _ (obj_putn (Ne.symm hne)), put_swap hne]⟩
    | new b =>
      obtain ⟨q, rfl, l⟩ := lG
      have hne : a ≠ b := by simpa [Foot.fits] using hfit
      exact ⟨_, l _, by rw [k _ (obj_putn (Ne.symm hne)), put_swap hne]⟩
    | _ => cases hfit
  | new a =>
    obtain ⟨o, rfl, k⟩ := lF
    cases g with
    | none => obtain ⟨rfl, l⟩ := lG; exact ⟨_, l _, hF⟩
    | rd b =>
      obtain ⟨rfl, l⟩ := lG
      exact ⟨_, l _ (Same1.put (by simpa [Foot.fits, ne_comm] using hfit)).2, hF⟩
    | wr b =>
      obtain ⟨q, rfl, l⟩ := lG
      have hne : a ≠ b := by simpa [Foot.fits] using hfit
      exact ⟨_, l _ (obj_putn hne).symm, by rw [k, put_swap hne]⟩
    | new b =>
      obtain ⟨q, rfl, l⟩ := lG
      have hne : a ≠ b := by simpa [Foot.fits] using hfit
      exact ⟨_, l _, by rw [k, put_swap hne]⟩
    | app r w =>
      obtain ⟨os, hw, rfl, l⟩ := lG
      obtain ⟨h1, h2⟩ : a ∉ w ∧ a ∉ r := by simpa [Foot.fits] using hfit
      rw [← hw] at h1
      exact ⟨_, l _ (fun i hi => (obj_putn (by rintro rfl; exact h2 hi)).symm), by rw [k, puts_put h1]⟩
    | _ => cases hfit
  | app r w =>
    obtain ⟨os, hw, rfl, k⟩ := lF
    cases g with
    | none => obtain ⟨rfl, l⟩ := lG; exact ⟨_, l _, hF⟩
    | rd b =>
      obtain ⟨rfl, l⟩ := lG
      have hn : b ∉ os.map (·.1) := by rw [hw]; simpa [Foot.fits] using hfit
      exact ⟨_, l _ (.of_obj (obj_puts hn).symm), hF⟩
    | new b =>
      obtain ⟨q, rfl, l⟩ := lG
      obtain ⟨h1, h2⟩ : b ∉ w ∧ b ∉ r := by simpa [Foot.fits] using hfit
      rw [← hw] at h1
      exact ⟨_, l _, by rw [k _ (fun i hi => obj_putn (by rintro rfl; exact h2 hi)), puts_put h1]⟩
    | app r' w' =>
      obtain ⟨qs, hw', rfl, l⟩ := lG
      obtain ⟨h1, h2⟩ : (∀ a ∈ w, a ∉ w' ∧ a ∉ r') ∧ ∀ b ∈ w', b ∉ r := by simpa [Foot.fits] using hfit
      have hd : ∀ a ∈ os.map (·.1), a ∉ qs.map (·.1) := by rw [hw, hw']; exact fun a ha => (h1 a ha).1
      refine ⟨σ.puts qs, l _ (fun i hi => (obj_puts (fun hm => (h1 i (hw ▸ hm)).2 hi)).symm), ?_⟩
      rw [k _ (fun i hi => obj_puts (fun hm => h2 i (hw' ▸ hm) hi)), puts_puts hd]
    | _ => cases hfit
  | rdAll => cases g with
    | none => obtain ⟨rfl, l⟩ := lG; exact ⟨_, l _, hF⟩
    | _ => cases hfit
  | wrAll => cases g with
    | none => obtain ⟨rfl, l⟩ := lG; exact ⟨_, l _, hF⟩
    | _ => cases hfit
  | call ids => cases g with
    | none => obtain ⟨rfl, l⟩ := lG; exact ⟨_, l _, hF⟩
    | _ => cases hfit
def SameAll (σ σ' : Store) : Prop := ∀ id, Same1 σ σ' id ∧ Same1 σ' σ id
theorem SameAll.refl (σ : Store) : SameAll σ σ := fun id => ⟨.refl _ _, .refl _ _⟩
theorem Same1.trans {σ σ' σ'' : Store} {id : Nat} (h : Same1 σ σ' id) (k : Same1 σ' σ'' id) : Same1 σ σ'' id := fun st e xs ho => by
  obtain ⟨st', h'⟩ := h _ _ _ ho
  exact k _ _ _ h'
theorem SameAll.trans {σ σ' σ'' : Store} (h : SameAll σ σ') (k : SameAll σ' σ'') : SameAll σ σ'' := fun id => ⟨(h id).1.trans (k id).1, (k id).2.trans (h id).2⟩
def Foot.reads : Foot → Bool
  | .none | .rd _ => true
  | _ => false
theorem comm_call_read {F G : StepF} {σ σ1 σ2 : Store} {u v : D} {f g : Foot} (hF : F σ = some (u, σ1, f)) (hG : G σ1 = some (v, σ2, g)) (lG : Local G σ1 v σ2 g) (hs : SameAll σ σ1) (hg : g.reads = true) :
    ∃ τ, G σ = some (v, τ, g) ∧ F τ = some (u, σ2, f) := by
  cases g with
  | none => obtain ⟨rfl, l⟩ := lG; exact ⟨_, l _, hF⟩
  | rd b => obtain ⟨rfl, l⟩ := lG; exact ⟨_, l _ (hs b).2, hF⟩
  | _ => cases hg
theorem comm_read_call {F G : StepF} {σ σ1 σ2 : Store} {u v : D} {f g : Foot} (hF : F σ = some (u, σ1, f)) (hG : G σ1 = some (v, σ2, g)) (lF : Local F σ u σ1 f) (hs : SameAll σ1 σ2) (hf : f.reads = true) :
    ∃ τ, G σ = some (v, τ, g) ∧ F τ = some (u, σ2, f) := by
  cases f with
  | none => obtain ⟨rfl, l⟩ := lF; exact ⟨_, hG, l _⟩
  | rd b => obtain ⟨rfl, l⟩ := lF; exact ⟨_, hG, l _ (hs b).1⟩
  | _ => cases hf

/-! ### a call that hands back data alone -/
theorem obj_put_eq {σ : Store} {a : Nat} {o o' : Ob} (h : σ.obj a = some o) : (σ.put a (some o')).obj a = some o' := by
  have hlt : a < σ.length := by
    rcases Nat.lt_or_ge a σ.length with h' | h'
    · exact h'
    · simp [Store.obj, List.getElem?_eq_none h'] at h
  simp [Store.obj, Store.put, hlt]
theorem seal_same {σ : Store} {i : Nat} {o : Ob} (ho : σ.obj i = some o) : SameAll σ (σ.put i (some (sealOb o))) := by
  intro id
  by_cases h : i = id
  · subst h
    constructor
    · intro st e xs k
      rw [ho] at k
      injection k with k
      subst k
      rw [obj_put_eq ho]
      cases st <;> exact ⟨_, rfl⟩
    · intro st e xs k
      rw [obj_put_eq ho] at k
      injection k with k
      rw [ho]
      cases o with
      | row st' e' xs' => cases st' <;> (simp only [sealOb] at k; injection k with k1 k2 k3; subst k2 k3; exact ⟨_, rfl⟩)
      | map => simp [sealOb] at k
  · exact Same1.put h
theorem sealed_same : ∀ (lent : List Nat) (σ : Store), SameAll σ (σ.sealed lent)
  | [], σ => .refl σ
  | i :: lent, σ => by
    unfold Store.sealed
    rw [List.foldl_cons]
    cases ho : σ.obj i with
    | none => exact sealed_same lent σ
    | some o => exact (seal_same ho).trans (sealed_same lent _)
theorem behind_same {σ σ' : Store} {lent : List Nat} {r : D} (h : σ.behind lent r = some σ') : SameAll σ σ' := by
  unfold Store.behind at h
  split at h
  · injection h with h; subst h; exact .refl _
  · split at h
    · injection h with h; subst h; exact sealed_same _ _
    · cases h
theorem roEnd_some {c : Bool} {σ σ' : Store} {q : D × Store} {r : D} (h : roEnd c σ q = some (r, σ')) : r = q.1 ∧ σ' = σ ∧ (c = true → q.1.flat = true ∧ sameS σ q.2 = true) := by
  unfold roEnd at h
  split at h
  · cases h
  · rename_i hn
    injection h with h; injection h with h1 h2
    refine ⟨h1.symm, h2.symm, fun hc => ?_⟩
    subst hc
    simpa using hn
theorem callD_same {run : CallF} {f : FuncId} {as : List D} {σ σ' : Store} {r : D} (hp : M.prim f = none) (hb : M.byref f = false ∨ M.ro f = true) (h : callD M run f as σ = some (r, σ')) : SameAll σ σ' := by
  unfold callD at h
  cases hbb : M.byref f with
  | true =>
    have hro := hb.resolve_left (by rw [hbb]; decide)
    simp only [hp, hbb, hro, if_true] at h
    obtain ⟨q, _, he⟩ := Option.bind_eq_some_iff.1 h
    rw [(roEnd_some he).2.1]
    exact .refl _
  | false =>
  simp only [hp, hbb, Bool.false_eq_true, if_false] at h
  split at h
  · split at h
    · split at h
      · obtain ⟨τ, hτ, e⟩ := Option.map_eq_some_iff.1 h
        injection e with e1 e2
        subst e2
        exact behind_same hτ
      · cases h
    · cases h
  · cases h

/-! ### a call and a new place -/
theorem obj_put_o {σ : Store} {a b : Nat} {o : Option Ob} (h : b ≠ a) : (σ.put a o).obj b = σ.obj b := obj_putn (Ne.symm h)
theorem lendLeaf_ms (σ : Store) (id off len cap : Nat) (ex : Bool) : lendLeaf σ (.ms id off len cap ex) = match σ.obj id with
    | some (.row _ _ xs) => if off + len ≤ xs.length ∧ ((xs.drop off).take len).all D.pure then (.sl (ex && decide (cap = len)) ((xs.drop off).take len), [id]) else (.ms id off len cap ex, [])
    | _ => (.ms id off len cap ex, []) := rfl
theorem lendLeaf_ms_cases (σ : Store) (id off len cap : Nat) (ex : Bool) : (lendLeaf σ (.ms id off len cap ex)).2 = [id] ∨ (lendLeaf σ (.ms id off len cap ex)).1 = .ms id off len cap ex := by
  rw [lendLeaf_ms]
  cases σ.obj id with
  | none => exact .inr rfl
  | some o =>
    cases o with
    | map => exact .inr rfl
    | row st e xs =>
      simp only
      split
      · exact .inl rfl
      · exact .inr rfl
theorem lendLeaf_ms_put {σ : Store} {aid id off len cap : Nat} {ex : Bool} {o : Option Ob} (hf : (lendLeaf σ (.ms id off len cap ex)).1 ≠ .ms id off len cap ex) (hid : aid ∉ (lendLeaf σ (.ms id off len cap ex)).2) : lendLeaf (σ.put aid o) (.ms id off len cap ex) = lendLeaf σ (.ms id off len cap ex) := by
  have h2 := (lendLeaf_ms_cases σ id off len cap ex).resolve_right hf
  rw [h2] at hid
  have hne : id ≠ aid := fun e => hid (e ▸ List.mem_singleton_self _)
  rw [lendLeaf_ms, lendLeaf_ms, obj_put_o hne]
theorem lendLeaf_put {σ : Store} {aid : Nat} {o : Option Ob} {d : D} (hf : (lendLeaf σ d).1.pleaf = true) (hid : aid ∉ (lendLeaf σ d).2) : lendLeaf (σ.put aid o) d = lendLeaf σ d := by
  cases d with
  | ms id off len cap ex => exact lendLeaf_ms_put (fun e => by rw [e] at hf; cases hf) hid
  | _ => rfl
theorem lend_put {σ : Store} {aid : Nat} {o : Option Ob} {d : D} (hf : (lend σ d).1.free = true) (hid : aid ∉ (lend σ d).2) : lend (σ.put aid o) d = lend σ d := by
  cases d with
  | agg ds =>
    have hf' : (ds.map fun d => (lendLeaf σ d).1).all D.pleaf = true := hf
    have hid' : ∀ x ∈ ds, aid ∉ (lendLeaf σ x).2 := fun x hx hm => hid (List.mem_flatMap.2 ⟨x, hx, hm⟩)
    rw [List.all_map, List.all_eq_true] at hf'
    have e : ∀ x ∈ ds, lendLeaf (σ.put aid o) x = lendLeaf σ x := fun x hx => lendLeaf_put (hf' x hx) (hid' x hx)
    show (D.agg (ds.map fun d => (lendLeaf (σ.put aid o) d).1), ds.flatMap fun d => (lendLeaf (σ.put aid o) d).2) = (D.agg (ds.map fun d => (lendLeaf σ d).1), ds.flatMap fun d => (lendLeaf σ d).2)
    rw [List.map_congr_left fun x hx => by rw [e x hx]]
    congr 1
    clear hf hid hf' hid'
    induction ds with
    | nil => rfl
    | cons x ds ih => rw [List.flatMap_cons, List.flatMap_cons, e x (List.mem_cons_self ..), ih fun y hy => e y (List.mem_cons_of_mem _ hy)]
  | ms id off len cap ex => exact lendLeaf_ms_put (fun e => by have hf : (lendLeaf σ (.ms id off len cap ex)).1.free = true := hf; rw [e] at hf; cases hf) hid
  | _ => rfl
theorem sealed_put {aid : Nat} {o : Option Ob} : ∀ {ids : List Nat} {σ : Store}, aid ∉ ids → (σ.put aid o).sealed ids = (σ.sealed ids).put aid o
  | [], σ, _ => rfl
  | i :: ids, σ, h => by
    have hi : i ≠ aid := fun e => h (e ▸ List.mem_cons_self ..)
    have hr : aid ∉ ids := fun e => h (List.mem_cons_of_mem _ e)
    show Store.sealed (match (σ.put aid o).obj i with | some q => (σ.put aid o).put i (some (sealOb q)) | none => σ.put aid o) ids = (Store.sealed (match σ.obj i with | some q => σ.put i (some (sealOb q)) | none => σ) ids).put aid o
    rw [obj_put_o hi]
    cases σ.obj i with
    | none => exact sealed_put hr
    | some q =>
      simp only
      rw [put_swap (Ne.symm hi)]
      exact sealed_put hr
theorem behind_put {aid : Nat} {o : Option Ob} {ids : List Nat} {σ σ1 : Store} {r : D} (hid : aid ∉ ids) (h : σ.behind ids r = some σ1) : (σ.put aid o).behind ids r = some (σ1.put aid o) := by
  unfold Store.behind at h ⊢
  split at h
  · rename_i hc; rw [if_pos hc]; injection h with h; rw [h]
  · rename_i hc
    rw [if_neg hc]
    split at h
    · rename_i ha
      injection h with h
      have : ids.all (σ.put aid o).mayseal = true := by
        rw [List.all_eq_true] at ha ⊢
        intro x hx
        have := ha x hx
        unfold Store.mayseal at this ⊢
        rw [obj_put_o (fun e : x = aid => hid (e ▸ hx))]
        exact this
      rw [if_pos this, sealed_put hid, h]
    · cases h
theorem callD_put {run : CallF} {f : FuncId} {as : List D} {σ σ' : Store} {r : D} {aid : Nat} {o : Option Ob} (hp : M.prim f = none) (hb : M.byref f = false) (h : callD M run f as σ = some (r, σ')) (hid : aid ∉ as.flatMap fun d => (lend σ d).2) :
    callD M run f as (σ.put aid o) = some (r, σ'.put aid o) ∧ (as.flatMap fun d => (lend (σ.put aid o) d).2) = as.flatMap fun d => (lend σ d).2 := by
  unfold callD at h ⊢
  simp only [hp, hb, Bool.false_eq_true, if_false] at h ⊢
  split at h
  case isFalse => cases h
  rename_i hfree
  have e : ∀ x ∈ as, lend (σ.put aid o) x = lend σ x := by
    intro x hx
    rw [List.all_map, List.all_eq_true] at hfree
    exact lend_put (hfree x hx) fun hm => hid (List.mem_flatMap.2 ⟨x, hx, hm⟩)
  have e1 : (as.map fun d => (lend (σ.put aid o) d).1) = as.map fun d => (lend σ d).1 := List.map_congr_left fun x hx => by rw [e x hx]
  have e2 : (as.flatMap fun d => (lend (σ.put aid o) d).2) = as.flatMap fun d => (lend σ d).2 := by
    clear h hid hfree e1
    induction as with
    | nil => rfl
    | cons x as ih => rw [List.flatMap_cons, List.flatMap_cons, e x (List.mem_cons_self ..), ih fun y hy => e y (List.mem_cons_of_mem _ hy)]
  rw [e1, e2, if_pos hfree]
  refine ⟨?_, rfl⟩
  split at h
  · rename_i r0 τ hr
    split at h
    · rename_i r' hf
      obtain ⟨s, hs, he⟩ := Option.map_eq_some_iff.1 h
      injection he with h1 h2
      subst h1 h2
      rw [behind_put hid hs]
      rfl
    · cases h
  · cases h
theorem behind_other {ids : List Nat} {σ σ1 : Store} {r : D} {aid : Nat} (hid : aid ∉ ids) (h : σ.behind ids r = some σ1) : σ1[aid]? = σ[aid]? := by
  have key : ∀ (ids : List Nat) (σ : Store), aid ∉ ids → (σ.sealed ids)[aid]? = σ[aid]? := by
    intro ids
    induction ids with
    | nil => intro σ _; rfl
    | cons i ids ih =>
      intro σ h
      have hi : i ≠ aid := fun e => h (e ▸ List.mem_cons_self ..)
      have hr : aid ∉ ids := fun e => h (List.mem_cons_of_mem _ e)
      show (Store.sealed (match σ.obj i with | some q => σ.put i (some (sealOb q)) | none => σ) ids)[aid]? = _
      rw [ih _ hr]
      cases σ.obj i with
      | none => rfl
      | some q => exact List.getElem?_set_ne hi
  unfold Store.behind at h
  split at h
  · injection h with h; rw [h]
  · split at h
    · injection h with h; rw [← h]; exact key ids σ hid
    · cases h
theorem callD_other {run : CallF} {f : FuncId} {as : List D} {σ σ' : Store} {r : D} {aid : Nat} (hp : M.prim f = none) (hb : M.byref f = false) (h : callD M run f as σ = some (r, σ')) (hid : aid ∉ as.flatMap fun d => (lend σ d).2) : σ'[aid]? = σ[aid]? := by
  unfold callD at h
  simp only [hp, hb, Bool.false_eq_true, if_false] at h
  split at h
  case isFalse => cases h
  split at h
  · split at h
    · obtain ⟨s, hs, he⟩ := Option.map_eq_some_iff.1 h
      injection he with h1 h2
      subst h2
      exact behind_other hid hs
    · cases h
  · cases h

/-! ### the classes -/
theorem stepW_cases {o : Oper} {aid : Nat} {e : Env} {σ : Store} {v : D} {s : Store} {f : Foot} (h : stepW P call ops o aid e σ = some (v, s, f)) :
    (f = .none ∧ s = σ) ∨ step P call o e aid σ = some (v, s, f) := by
  unfold stepW at h
  split at h
  · exact .inr h
  · injection h with h; injection h with h1 h; injection h with h2 h3; exact .inl ⟨h3.symm, h2.symm⟩
  · cases h
theorem readOp_reads {G : Option (D × Foot)} {σ : Store} {r : D × Store × Foot} (hG : ∀ v f, G = some (v, f) → f.reads = true) (h : (G.map fun r => (r.1, σ, r.2)) = some r) : r.2.2.reads = true := by
  obtain ⟨⟨v, f⟩, hv, rfl⟩ := Option.map_eq_some_iff.1 h
  exact hG _ _ hv
theorem reads_of {G : Store → Option (D × Foot)} (hG : ∀ σ v f, G σ = some (v, f) → (f = .none ∧ ∀ σ', G σ' = some (v, .none)) ∨ (∃ id, f = .rd id ∧ ∀ σ', Same1 σ σ' id → G σ' = some (v, .rd id))) (σ : Store) :
    ∀ v f, G σ = some (v, f) → f.reads = true := fun v f h => by
  rcases hG _ _ _ h with ⟨rfl, _⟩ | ⟨id, rfl, _⟩ <;> rfl
theorem pureOp_none {G : Option D} {σ : Store} {r : D × Store × Foot} (h : (G.map fun d => (d, σ, Foot.none)) = some r) : r.2.2 = .none := by
  obtain ⟨v, hv, rfl⟩ := Option.map_eq_some_iff.1 h
  rfl
theorem builtin_none {b : Builtin} (hb : b = .len ∨ b = .cap ∨ b = .max ∨ b = .min) {ats : List TypeId} {xs : List D} {aid : Nat} {σ : Store} {r : D × Store × Foot} (h : evBuiltin P b ats xs aid σ = some r) : r.2.2 = .none := by
  unfold evBuiltin at h
  split at h
  · split at h
    · split at h
      · injection h with h; subst h; rfl
      · cases h
    · split at h
      · obtain ⟨n, hn, rfl⟩ := Option.map_eq_some_iff.1 h; rfl
      · obtain ⟨n, hn, rfl⟩ := Option.map_eq_some_iff.1 h; rfl
      · cases h
    · cases h
  · split at h
    · obtain ⟨n, hn, rfl⟩ := Option.map_eq_some_iff.1 h; rfl
    · cases h
  · rcases hb with h | h | h | h <;> cases h
  · rcases hb with h | h | h | h <;> cases h
  · rcases hb with h | h | h | h <;> cases h
  · obtain ⟨n, hn, rfl⟩ := Option.map_eq_some_iff.1 h; rfl
  · obtain ⟨n, hn, rfl⟩ := Option.map_eq_some_iff.1 h; rfl
  · cases h
theorem cls_q {o : Oper} (hc : cls o = .q) {e : Env} {aid : Nat} {σ : Store} {r : D × Store × Foot} (h : step P call o e aid σ = some r) : r.2.2 = .none := by
  obtain ⟨dst, op, type, pos, after, guard⟩ := o
  cases op
  case call c =>
    obtain ⟨callee, as, ts⟩ := c
    cases callee
    case builtin b =>
      rw [step_other rfl] at h
      simp only [evOp] at h
      refine builtin_none (b := b) ?_ h
      cases b <;> simp only [cls] at hc <;> first | (cases hc; done) | simp
    case value f => cases f <;> simp only [cls] at hc <;> cases hc
    all_goals (simp only [cls] at hc; cases hc)
  case pick c a b =>
    rw [step_other rfl] at h
    simp only [evOp] at h
    split at h
    · injection h with h; subst h; rfl
    · cases h
  case nilCheck x =>
    rw [step_other rfl] at h
    simp only [evOp] at h
    split at h
    · injection h with h; subst h; rfl
    · injection h with h; subst h; rfl
    · injection h with h; subst h; rfl
    · cases h
  case extract x ix =>
    rw [step_other rfl] at h
    simp only [evOp] at h
    split at h
    · split at h
      · injection h with h; subst h; rfl
      · cases h
    · cases h
  case makeFunc fn first caps =>
    rw [step_other rfl] at h
    cases fn <;> simp only [evOp] at h
    case func f => injection h with h; subst h; rfl
    all_goals cases h
  case move => rw [step_other rfl] at h; injection h with h; subst h; rfl
  case assign => rw [step_other rfl] at h; injection h with h; subst h; rfl
  case build => rw [step_other rfl] at h; exact pureOp_none h
  case binOp => rw [step_other rfl] at h; exact pureOp_none h
  case unOp => rw [step_other rfl] at h; exact pureOp_none h
  case fieldAddr => rw [step_other rfl] at h; exact pureOp_none h
  case field => rw [step_other rfl] at h; exact pureOp_none h
  case index => rw [step_other rfl] at h; exact pureOp_none h
  all_goals (simp only [cls] at hc; cases hc)
theorem cls_r {o : Oper} (hc : cls o = .r) {e : Env} {aid : Nat} {σ : Store} {r : D × Store × Foot} (h : step P call o e aid σ = some r) : r.2.2.reads = true := by
  obtain ⟨dst, op, type, pos, after, guard⟩ := o
  cases op
  case call c =>
    obtain ⟨callee, as, ts⟩ := c
    cases callee
    case builtin b => cases b <;> simp only [cls] at hc <;> cases hc
    case value f => cases f <;> simp only [cls] at hc <;> cases hc
    all_goals (simp only [cls] at hc; cases hc)
  case load => rw [step_other rfl] at h; exact readOp_reads (reads_of load_local σ) h
  case indexAddr => rw [step_other rfl] at h; exact readOp_reads (reads_of indexAddr_local σ) h
  case slice => rw [step_other rfl] at h; exact readOp_reads (reads_of slice_local σ) h
  case convert => rw [step_other rfl] at h; exact readOp_reads (reads_of (fun σ v f h => conv_local σ v f h) _) h
  all_goals (simp only [cls] at hc; cases hc)
theorem cls_n {o : Oper} (hc : cls o = .n) {e : Env} {aid : Nat} {σ : Store} {r : D × Store × Foot} (h : step P call o e aid σ = some r) : r.2.2 = .new aid ∧ allocs o = true := by
  obtain ⟨dst, op, type, pos, after, guard⟩ := o
  cases op
  case call c =>
    obtain ⟨callee, as, ts⟩ := c
    cases callee
    case builtin b => cases b <;> simp only [cls] at hc <;> cases hc
    case value f => cases f <;> simp only [cls] at hc <;> cases hc
    all_goals (simp only [cls] at hc; cases hc)
  case alloc =>
    rw [step_other rfl] at h
    simp only [evOp] at h
    split at h
    · injection h with h; subst h; exact ⟨rfl, rfl⟩
    · cases h
  case box =>
    rw [step_other rfl] at h
    simp only [evOp] at h
    split at h
    · injection h with h; subst h; exact ⟨rfl, rfl⟩
    · cases h
  case buildSlice =>
    rw [step_other rfl] at h
    simp only [evOp, evBuildSlice] at h
    split at h
    · split at h
      · obtain ⟨xs, hx, rfl⟩ := Option.map_eq_some_iff.1 h; exact ⟨rfl, rfl⟩
      · cases h
    · cases h
  case makeSlice =>
    rw [step_other rfl] at h
    simp only [evOp, evMakeSlice] at h
    split at h
    · split at h
      · injection h with h; subst h; exact ⟨rfl, rfl⟩
      · cases h
    · cases h
  all_goals (simp only [cls] at hc; cases hc)
theorem cls_c {o : Oper} {f : FuncId} (hc : cls o = .c f) : ∃ as ts, o.op = .call { callee := .value (.func f), args := as, argTypes := ts } := by
  obtain ⟨dst, op, type, pos, after, guard⟩ := o
  cases op
  case call c =>
    obtain ⟨callee, as, ts⟩ := c
    cases callee
    case builtin b => cases b <;> simp only [cls] at hc <;> cases hc
    case value g =>
      cases g <;> simp only [cls] at hc <;> cases hc
      exact ⟨_, _, rfl⟩
    all_goals (simp only [cls] at hc; cases hc)
  all_goals (simp only [cls] at hc; cases hc)
theorem cls_c_same {run : CallF} {o : Oper} {f : FuncId} (hc : cls o = .c f) (hp : M.prim f = none) (hb : M.byref f = false ∨ M.ro f = true) {e : Env} {aid : Nat} {σ : Store} {r : D × Store × Foot} (h : step P (callD M run) o e aid σ = some r) : SameAll σ r.2.1 := by
  obtain ⟨as, ts, ho⟩ := cls_c hc
  rw [step_go ho] at h
  split at h
  · rename_i g bs hg
    have : g = f := by
      simp only [evCallee, opnd] at hg
      injection hg with hg
      injection hg with h1 h2
      exact h1.symm
    subst this
    split at h
    · rename_i r' σ' hr
      injection h with h; subst h
      exact callD_same hp hb hr
    · cases h
  · cases h
/-- A call step, wherever it stands. -/
theorem cls_c_step {run : CallF} {o : Oper} {f : FuncId} (hc : cls o = .c f) {e : Env} {aid : Nat} {σ : Store} {r : D × Store × Foot} (h : step P (callD M run) o e aid σ = some r) :
    ∃ as, (∀ σ, step P (callD M run) o e aid σ = match callD M run f as σ with | some (r, σ') => some (r, σ', .call (as.flatMap fun d => (lend σ d).2)) | none => none) ∧ callD M run f as σ = some (r.1, r.2.1) ∧ r.2.2 = .call (as.flatMap fun d => (lend σ d).2) := by
  obtain ⟨as, ts, ho⟩ := cls_c hc
  have hst := fun σ => step_go (P := P) (call := callD M run) ho e aid σ
  rw [hst σ] at h
  split at h
  · rename_i g bs hg
    have : g = f := by
      simp only [evCallee, opnd] at hg
      injection hg with hg
      injection hg with h1 h2
      exact h1.symm
    subst this
    refine ⟨bs, fun σ => by rw [hst σ, hg]; rfl, ?_⟩
    split at h
    · rename_i r' σ' hr
      injection h with h; subst h
      exact ⟨hr, rfl⟩
    · cases h
  · cases h
end
end Go.Proofs.Ytfclelafcdcilaa.Dv
/- A region by its indices: any order that is allowed comes to the same. -/
set_option linter.unusedVariables false
set_option linter.unusedSimpArgs false
namespace Go.Proofs.Ytfclelafcdcilaa.Dv
open Go

section
variable {P : Program} {M : Modes} {call : CallF} {ops : Array Oper} {base : Nat}

def aidAt (ops : Array Oper) (base i : Nat) : Nat := base + nallocs (ops.toList.take i)
def evI (P : Program) (call : CallF) (ops : Array Oper) (base : Nat) : List Nat → Env → Store → Option (Env × Store × List Foot)
  | [], e, σ => some (e, σ, [])
  | i :: rest, e, σ => match ops[i]? with
    | some o => match stepW P call ops o (aidAt ops base i) e σ with
      | some (v, σ', f) => match evI P call ops base rest (putO e o.dst v) σ' with
        | some (e', σ'', fs) => some (e', σ'', f :: fs)
        | none => none
      | none => none
    | none => none
theorem evI_cons {i : Nat} {rest : List Nat} {e e' : Env} {σ σ'' : Store} {fs : List Foot} : evI P call ops base (i :: rest) e σ = some (e', σ'', fs) ↔
    ∃ o v σ' f fs', ops[i]? = some o ∧ stepW P call ops o (aidAt ops base i) e σ = some (v, σ', f) ∧ evI P call ops base rest (putO e o.dst v) σ' = some (e', σ'', fs') ∧ fs = f :: fs' := by
  constructor
  · intro h
    unfold evI at h
    split at h
    · rename_i o ho
      split at h
      · rename_i v σ' f hs
        split at h
        · rename_i e1 s1 fs1 hr
          injection h with h; injection h with h1 h; injection h with h2 h3
          subst h1 h2
          exact ⟨o, v, σ', f, fs1, ho, hs, hr, h3.symm⟩
        · cases h
      · cases h
    · cases h
  · rintro ⟨o, v, σ', f, fs', ho, hs, hr, rfl⟩
    unfold evI
    simp only [ho, hs, hr]

/-- Two operations that may change places. -/
def Fine (M : Modes) (ops : Array Oper) (foot : Nat → Foot) (j i : Nat) : Prop :=
  ∀ x y, ops[j]? = some x → ops[i]? = some y → x.apart ops y = true ∧
    ((cls x).fits (cls y) = true ∧ (∀ f, cls x = .c f ∨ cls y = .c f → cls x = .q ∨ cls y = .q ∨ M.prim f = none ∧ (M.byref f = false ∨ M.ro f = true)) ∨ (foot j).fits (foot i) = true ∨
      (isCN (cls x) (cls y) = true ∧ (∀ f, cls x = .c f ∨ cls y = .c f → M.prim f = none ∧ M.byref f = false) ∧ (foot j).apartC (foot i) = true))
theorem nallocs_take_succ {i : Nat} {o : Oper} (ho : ops[i]? = some o) : nallocs (ops.toList.take (i + 1)) = nallocs (ops.toList.take i) + (if allocs o = true then 1 else 0) := by
  have hl : ops.toList[i]? = some o := by rw [Array.getElem?_toList]; exact ho
  rw [List.take_add_one, hl]
  unfold nallocs
  rw [List.filter_append, List.length_append]
  by_cases h : allocs o = true <;> simp [h]
theorem nallocs_mono {i j : Nat} (h : i ≤ j) : nallocs (ops.toList.take i) ≤ nallocs (ops.toList.take j) := by
  induction h with
  | refl => exact Nat.le_refl _
  | @step m _ ih =>
    refine Nat.le_trans ih ?_
    cases ho : ops[m]? with
    | some o => rw [nallocs_take_succ ho]; exact Nat.le_add_right _ _
    | none =>
      have hm : ops.toList.length ≤ m := by simpa using Array.getElem?_eq_none_iff.1 ho
      rw [List.take_of_length_le hm, List.take_of_length_le (by omega)]
      exact Nat.le_refl _
theorem aid_lt {i j : Nat} {o : Oper} (h : i < j) (ho : ops[i]? = some o) (ha : allocs o = true) : aidAt ops base i < aidAt ops base j := by
  unfold aidAt
  have h1 := nallocs_mono (ops := ops) (show i + 1 ≤ j from h)
  rw [nallocs_take_succ ho, if_pos ha] at h1
  omega
theorem aid_total {i : Nat} {o : Oper} (ho : ops[i]? = some o) (ha : allocs o = true) : aidAt ops base i < base + nallocs ops.toList := by
  have hlt : i < ops.size := (Array.getElem?_eq_some_iff.1 ho).1
  have := aid_lt (base := base) hlt ho ha
  unfold aidAt at this ⊢
  rw [List.take_of_length_le (i := ops.size) (by simp)] at this
  omega
theorem swap {run : CallF} {foot : Nat → Foot} {j i : Nat} (hji : j < i) {x y : Oper} (hx : ops[j]? = some x) (hy : ops[i]? = some y) (hf : Fine M ops foot j i) {e : Env} {σ σ1 σ2 : Store} {u v : D}
    (h1 : stepW P (callD M run) ops x (aidAt ops base j) e σ = some (u, σ1, foot j)) (h2 : stepW P (callD M run) ops y (aidAt ops base i) (putO e x.dst u) σ1 = some (v, σ2, foot i)) :
    ∃ τ, stepW P (callD M run) ops y (aidAt ops base i) e σ = some (v, τ, foot i) ∧ stepW P (callD M run) ops x (aidAt ops base j) (putO e y.dst v) τ = some (u, σ2, foot j) := by
  obtain ⟨hap, hfit⟩ := hf x y hx hy
  obtain ⟨a1, a2, a3⟩ := Oper.apart_spec hap
  rw [stepW_put a1] at h2
  suffices h : ∃ τ, stepW P (callD M run) ops y (aidAt ops base i) e σ = some (v, τ, foot i) ∧ stepW P (callD M run) ops x (aidAt ops base j) e τ = some (u, σ2, foot j) by
    obtain ⟨τ, k1, k2⟩ := h
    exact ⟨τ, k1, by rw [stepW_put a3]; exact k2⟩
  have l1 := stepW_local h1
  have l2 := stepW_local h2
  rcases hfit with ⟨hc, hpure⟩ | hft | ⟨hcn, hnr, hap2⟩
  case inr.inl => exact comm_feet h1 h2 l1 l2 hft
  case inr.inr =>
    have noneL : foot j = .none → ∃ τ, stepW P (callD M run) ops y (aidAt ops base i) e σ = some (v, τ, foot i) ∧ stepW P (callD M run) ops x (aidAt ops base j) e τ = some (u, σ2, foot j) := fun hn =>
      comm_feet h1 h2 l1 l2 (by rw [hn]; rfl)
    have noneR : foot i = .none → ∃ τ, stepW P (callD M run) ops y (aidAt ops base i) e σ = some (v, τ, foot i) ∧ stepW P (callD M run) ops x (aidAt ops base j) e τ = some (u, σ2, foot j) := fun hn =>
      comm_feet h1 h2 l1 l2 (by rw [hn]; cases foot j <;> rfl)
    have w1 := h1
    have w2 := h2
    rcases stepW_cases h1 with ⟨hn, _⟩ | s1
    · exact noneL hn
    rcases stepW_cases h2 with ⟨hn, _⟩ | s2
    · exact noneR hn
    have wt : ∀ {o : Oper} {aid : Nat} {σ : Store} {r : D × Store × Foot}, stepW P (callD M run) ops o aid e σ = some r → r.2.2 ≠ .none → ∀ s, stepW P (callD M run) ops o aid e s = step P (callD M run) o e aid s := by
      intro o aid σ r hr hne s
      unfold stepW at hr ⊢
      split at hr
      · rfl
      · injection hr with hr; subst hr; exact absurd rfl hne
      · cases hr
    cases cx : cls x with
    | c f =>
      cases cy : cls y with
      | n =>
        obtain ⟨hp, hb⟩ := hnr f (.inl cx)
        obtain ⟨as, hst, hcall, hfoot⟩ := cls_c_step cx s1
        obtain ⟨f2, b2⟩ := cls_n cy s2
        simp only at hcall hfoot f2
        rw [f2] at l2
        obtain ⟨o, ho, lo⟩ := l2
        rw [hfoot, f2] at hap2
        have hid : aidAt ops base i ∉ as.flatMap fun d => (lend σ d).2 := by
          intro hm
          simp only [Foot.apartC, Bool.not_eq_true'] at hap2
          rw [List.contains_iff_mem.2 hm] at hap2
          cases hap2
        obtain ⟨k1, k2⟩ := callD_put (o := o) hp hb hcall hid
        refine ⟨σ.put (aidAt ops base i) o, ?_, ?_⟩
        · rw [f2]; exact lo σ
        · rw [wt w1 (by rw [hfoot]; simp), hst, k1]
          simp only
          rw [k2, hfoot, ho]
      | _ => rw [cx, cy] at hcn; cases hcn
    | n =>
      cases cy : cls y with
      | c f =>
        obtain ⟨hp, hb⟩ := hnr f (.inr cy)
        obtain ⟨as, hst, hcall, hfoot⟩ := cls_c_step cy s2
        obtain ⟨f1, b1⟩ := cls_n cx s1
        simp only at hcall hfoot f1
        rw [f1] at l1
        obtain ⟨o, ho, lo⟩ := l1
        subst ho
        rw [hfoot, f1] at hap2
        have hid : aidAt ops base j ∉ as.flatMap fun d => (lend (σ.put (aidAt ops base j) o) d).2 := by
          intro hm
          simp only [Foot.apartC, Bool.not_eq_true'] at hap2
          rw [List.contains_iff_mem.2 hm] at hap2
          cases hap2
        have hback : ∀ (τ : Store) (a : Nat) (q : Option Ob), (τ.put a q).put a ((τ[a]?).getD none) = τ := by
          intro τ a q
          unfold Store.put
          rw [List.set_set]
          rcases Nat.lt_or_ge a τ.length with hl | hl
          · rw [List.getElem?_eq_getElem hl]
            simp
          · rw [List.set_eq_of_length_le hl]
        obtain ⟨k1, k2⟩ := callD_put (o := (σ[aidAt ops base j]?).getD none) hp hb hcall hid
        have k3 := callD_other hp hb hcall hid
        rw [hback] at k1 k2
        refine ⟨σ2.put (aidAt ops base j) ((σ[aidAt ops base j]?).getD none), ?_, ?_⟩
        · rw [wt w2 (by rw [hfoot]; simp), hst, k1]
          simp only
          rw [k2, hfoot]
        · rw [f1, lo]
          congr 2
          congr 1
          unfold Store.put
          rw [List.set_set]
          rcases Nat.lt_or_ge (aidAt ops base j) σ2.length with hl | hl
          · have hl2 : aidAt ops base j < σ.length := by
              have : (σ.put (aidAt ops base j) o)[aidAt ops base j]? = some σ2[aidAt ops base j] := by rw [← k3, List.getElem?_eq_getElem hl]
              have := (List.getElem?_eq_some_iff.1 this).1
              simpa [Store.put] using this
            have he : σ2[aidAt ops base j] = o := by
              rw [List.getElem?_eq_getElem hl] at k3
              unfold Store.put at k3
              rw [List.getElem?_set_self hl2] at k3
              injection k3
            rw [← he]
            simp
          · rw [List.set_eq_of_length_le hl]
      | _ => rw [cx, cy] at hcn; cases hcn
    | _ => rw [cx] at hcn; cases hcn
  have noneL : foot j = .none → ∃ τ, stepW P (callD M run) ops y (aidAt ops base i) e σ = some (v, τ, foot i) ∧ stepW P (callD M run) ops x (aidAt ops base j) e τ = some (u, σ2, foot j) := fun hn =>
    comm_feet h1 h2 l1 l2 (by rw [hn]; rfl)
  have noneR : foot i = .none → ∃ τ, stepW P (callD M run) ops y (aidAt ops base i) e σ = some (v, τ, foot i) ∧ stepW P (callD M run) ops x (aidAt ops base j) e τ = some (u, σ2, foot j) := fun hn =>
    comm_feet h1 h2 l1 l2 (by rw [hn]; cases foot j <;> rfl)
  rcases stepW_cases h1 with ⟨hn, _⟩ | s1
  · exact noneL hn
  rcases stepW_cases h2 with ⟨hn, _⟩ | s2
  · exact noneR hn
  cases cx : cls x with
  | q => exact noneL (cls_q cx s1)
  | r =>
    cases cy : cls y with
    | q => exact noneR (cls_q cy s2)
    | r =>
      have r1 := cls_r cx s1
      have r2 := cls_r cy s2
      refine comm_feet h1 h2 l1 l2 ?_
      simp only at r1 r2
      generalize foot j = f at *
      generalize foot i = g at *
      cases f <;> first | (cases r1; done) | skip
      all_goals (cases g <;> first | (cases r2; done) | rfl)
    | c f =>
      have hp := (hpure f (.inr cy)).resolve_left (by rw [cx]; simp) |>.resolve_left (by rw [cy]; simp)
      exact comm_read_call h1 h2 l1 (cls_c_same cy hp.1 hp.2 s2) (cls_r cx s1)
    | n => rw [cx, cy] at hc; cases hc
    | w => rw [cx, cy] at hc; cases hc
  | n =>
    cases cy : cls y with
    | q => exact noneR (cls_q cy s2)
    | n =>
      obtain ⟨f1, b1⟩ := cls_n cx s1
      obtain ⟨f2, b2⟩ := cls_n cy s2
      refine comm_feet h1 h2 l1 l2 ?_
      simp only at f1 f2
      rw [f1, f2]
      have := aid_lt (base := base) hji hx b1
      simp only [Foot.fits, bne_iff_ne, ne_eq]
      omega
    | r => rw [cx, cy] at hc; cases hc
    | c f => rw [cx, cy] at hc; cases hc
    | w => rw [cx, cy] at hc; cases hc
  | c f =>
    cases cy : cls y with
    | q => exact noneR (cls_q cy s2)
    | r =>
      have hp := (hpure f (.inl cx)).resolve_left (by rw [cx]; simp) |>.resolve_left (by rw [cy]; simp)
      exact comm_call_read h1 h2 l2 (cls_c_same cx hp.1 hp.2 s1) (cls_r cy s2)
    | n => rw [cx, cy] at hc; cases hc
    | c g => rw [cx, cy] at hc; cases hc
    | w => rw [cx, cy] at hc; cases hc
  | w =>
    cases cy : cls y with
    | q => exact noneR (cls_q cy s2)
    | _ => rw [cx, cy] at hc; cases hc
/-- What stands in no order with those ahead may come first. -/
theorem bubble {run : CallF} {foot : Nat → Foot} {i : Nat} {post : List Nat} : ∀ {pre : List Nat} {e e' : Env} {σ σ' : Store}, (∀ j ∈ pre, j < i ∧ Fine M ops foot j i) →
    evI P (callD M run) ops base (pre ++ i :: post) e σ = some (e', σ', (pre ++ i :: post).map foot) →
    ∃ o v τ, ops[i]? = some o ∧ stepW P (callD M run) ops o (aidAt ops base i) e σ = some (v, τ, foot i) ∧ evI P (callD M run) ops base (pre ++ post) (putO e o.dst v) τ = some (e', σ', (pre ++ post).map foot)
  | [], e, e', σ, σ', _, h => by
    obtain ⟨o, v, τ, f, fs, ho, hs, hr, hfs⟩ := evI_cons.1 h
    simp only [List.nil_append, List.map_cons, List.cons.injEq] at hfs
    obtain ⟨rfl, rfl⟩ := hfs
    exact ⟨o, v, τ, ho, hs, hr⟩
  | p :: pre, e, e', σ, σ', hf, h => by
    obtain ⟨x, u, σ1, f, fs, hx, hs, hr, hfs⟩ := evI_cons.1 (by simpa using h)
    simp only [List.cons.injEq] at hfs
    obtain ⟨rfl, rfl⟩ := hfs
    obtain ⟨o, v, σ2, ho, hs2, hr2⟩ := bubble (fun j hj => hf j (List.mem_cons_of_mem _ hj)) (by simpa using hr)
    obtain ⟨hlt, hfine⟩ := hf p (List.mem_cons_self ..)
    obtain ⟨τ, k1, k2⟩ := swap hlt hx ho hfine hs hs2
    refine ⟨o, v, τ, ho, k1, ?_⟩
    rw [List.cons_append]
    refine evI_cons.2 ⟨x, u, σ2, foot p, _, hx, k2, ?_, by rw [List.map_cons]⟩
    have := (Oper.apart_spec (hfine x o hx ho).1).2.1
    rw [← putO_comm this]
    exact hr2

/-! ### from the list to the indices -/
theorem evL_I : ∀ (l : List Oper) (k : Nat) {e : Env} {σ : Store} {r : Env × Store}, l = ops.toList.drop k → evL P call ops l (aidAt ops base k) e σ = some r →
    ∃ fs, evI P call ops base (List.range' k l.length) e σ = some (r.1, r.2, fs) ∧ feetL P call ops l (aidAt ops base k) e σ = some fs ∧ fs.length = l.length
  | [], k, e, σ, r, hl, h => by
    unfold evL at h
    injection h with h; subst h
    exact ⟨[], rfl, rfl, rfl⟩
  | o :: l, k, e, σ, r, hl, h => by
    have ho : ops[k]? = some o := by
      have : (ops.toList.drop k)[0]? = some o := by rw [← hl]; rfl
      rw [List.getElem?_drop] at this
      simpa using this
    have hl' : l = ops.toList.drop (k + 1) := by
      have : (ops.toList.drop k).tail = l := by rw [← hl]; rfl
      rw [← this, List.tail_drop]
    have haid : (if allocs o = true then aidAt ops base k + 1 else aidAt ops base k) = aidAt ops base (k + 1) := by
      unfold aidAt
      rw [nallocs_take_succ ho]
      split <;> omega
    unfold evL at h
    rw [haid] at h
    cases hw : wants ops e o with
    | none => simp [hw] at h
    | some b =>
      cases b with
      | false =>
        simp only [hw] at h
        obtain ⟨fs, h1, h2, h3⟩ := evL_I l (k + 1) hl' h
        refine ⟨.none :: fs, evI_cons.2 ⟨o, .undef, σ, .none, fs, ho, by unfold stepW; rw [hw], h1, rfl⟩, ?_, by simp [h3]⟩
        unfold feetL
        simp only [hw]
        rw [haid, h2]; rfl
      | true =>
        simp only [hw] at h
        cases hs : step P call o e (aidAt ops base k) σ with
        | none => simp [hs] at h
        | some q =>
          obtain ⟨v, σ', f⟩ := q
          simp only [hs] at h
          obtain ⟨fs, h1, h2, h3⟩ := evL_I l (k + 1) hl' h
          refine ⟨f :: fs, evI_cons.2 ⟨o, v, σ', f, fs, ho, by unfold stepW; rw [hw]; exact hs, h1, rfl⟩, ?_, by simp [h3]⟩
          unfold feetL
          simp only [hw, hs]
          rw [haid, h2]; rfl

/-! ### what stands ahead -/
def maskOf (ms : List Nat) (o : Oper) : Nat := o.after.foldl (fun m ed => if Region.binds .any ed then m ||| (1 <<< ed.on) ||| ms.getD ed.on 0 else m) 0
def masksL (l : List Oper) : List Nat := l.foldl (fun ms o => ms ++ [maskOf ms o]) []
theorem masks_eq : masks ops = masksL ops.toList := rfl
theorem masksL_snoc (l : List Oper) (o : Oper) : masksL (l ++ [o]) = masksL l ++ [maskOf (masksL l) o] := by simp [masksL]
theorem foldl_snoc {α β : Type} (g : List β → α → β) : ∀ (l : List α) (ms : List β), (l.foldl (fun ms o => ms ++ [g ms o]) ms).length = ms.length + l.length ∧ ∃ t, l.foldl (fun ms o => ms ++ [g ms o]) ms = ms ++ t
  | [], ms => ⟨rfl, [], by simp⟩
  | o :: l, ms => by
    obtain ⟨h1, t, h2⟩ := foldl_snoc g l (ms ++ [g ms o])
    refine ⟨?_, [g ms o] ++ t, ?_⟩
    · rw [List.foldl_cons, h1]; simp; omega
    · rw [List.foldl_cons, h2]; simp
theorem masksL_length (l : List Oper) : (masksL l).length = l.length := by
  have := (foldl_snoc maskOf l []).1
  simpa [masksL] using this
theorem masksL_append (l r : List Oper) : ∃ t, masksL (l ++ r) = masksL l ++ t := by
  unfold masksL
  rw [List.foldl_append]
  exact (foldl_snoc maskOf r _).2
theorem masks_get {i : Nat} {o : Oper} (ho : ops[i]? = some o) : (masks ops).getD i 0 = maskOf (masksL (ops.toList.take i)) o := by
  have hl : ops.toList[i]? = some o := by rw [Array.getElem?_toList]; exact ho
  have hlt : i < ops.toList.length := (List.getElem?_eq_some_iff.1 hl).1
  have hsplit : ops.toList = (ops.toList.take i ++ [o]) ++ ops.toList.drop (i + 1) := by
    have : ops.toList.take (i + 1) = ops.toList.take i ++ [o] := by rw [List.take_add_one, hl]; rfl
    rw [← this, List.take_append_drop]
  rw [masks_eq]
  obtain ⟨t, ht⟩ := masksL_append (ops.toList.take i ++ [o]) (ops.toList.drop (i + 1))
  rw [← hsplit] at ht
  rw [ht, masksL_snoc, List.append_assoc]
  have hlen : (masksL (ops.toList.take i)).length = i := by rw [masksL_length, List.length_take]; omega
  rw [List.getD_eq_getElem?_getD, List.getElem?_append_right (by omega), hlen]
  simp
theorem masks_take {i k : Nat} (h : k < i) (hi : i ≤ ops.size) : (masksL (ops.toList.take i)).getD k 0 = (masks ops).getD k 0 := by
  have hsplit : ops.toList = ops.toList.take i ++ ops.toList.drop i := (List.take_append_drop _ _).symm
  obtain ⟨t, ht⟩ := masksL_append (ops.toList.take i) (ops.toList.drop i)
  rw [← hsplit] at ht
  rw [masks_eq, ht, List.getD_eq_getElem?_getD, List.getD_eq_getElem?_getD, List.getElem?_append_left]
  rw [masksL_length, List.length_take, Array.length_toList]
  omega
theorem maskOf_bit {ms : List Nat} {j : Nat} : ∀ (l : List Edge) (m : Nat), (l.foldl (fun m ed => if Region.binds .any ed then m ||| (1 <<< ed.on) ||| ms.getD ed.on 0 else m) m).testBit j = true →
    m.testBit j = true ∨ ∃ ed ∈ l, Region.binds .any ed = true ∧ (j = ed.on ∨ (ms.getD ed.on 0).testBit j = true)
  | [], m, h => .inl h
  | ed :: l, m, h => by
    rw [List.foldl_cons] at h
    rcases maskOf_bit l _ h with h | ⟨x, hx, h⟩
    · by_cases hb : Region.binds .any ed = true
      · rw [if_pos hb, Nat.testBit_or, Nat.testBit_or, Bool.or_eq_true, Bool.or_eq_true] at h
        rcases h with (h | h) | h
        · exact .inl h
        · refine .inr ⟨ed, List.mem_cons_self .., hb, .inl ?_⟩
          rw [Nat.testBit_shiftLeft] at h
          simp only [Bool.and_eq_true, decide_eq_true_eq] at h
          obtain ⟨h1, h2⟩ := h
          have : j - ed.on = 0 := by
            rcases Nat.eq_zero_or_pos (j - ed.on) with h0 | h0
            · exact h0
            · rw [Nat.testBit_lt_two_pow] at h2
              · cases h2
              · exact Nat.one_lt_two_pow (by omega)
          omega
        · exact .inr ⟨ed, List.mem_cons_self .., hb, .inr h⟩
      · rw [if_neg hb] at h; exact .inl h
    · exact .inr ⟨x, List.mem_cons_of_mem _ hx, h⟩
/-- Every operation stands behind what it needs. -/
def topo (ops : Array Oper) : Bool := (List.range ops.size).all fun i => match ops[i]? with | some o => o.after.all fun ed => !Region.binds .any ed || decide (ed.on < i) | none => true
theorem topo_spec (h : topo ops = true) {i : Nat} {o : Oper} (ho : ops[i]? = some o) {ed : Edge} (he : ed ∈ o.after) (hb : Region.binds .any ed = true) : ed.on < i := by
  have hlt : i < ops.size := (Array.getElem?_eq_some_iff.1 ho).1
  have := List.all_eq_true.1 h i (List.mem_range.2 hlt)
  simp only [ho] at this
  have := Array.all_eq_true_iff_forall_mem.1 this ed he
  simpa [hb] using this
def Closed (ops : Array Oper) (listed : Array Bool) : Prop := ∀ i o, ops[i]? = some o → listed.getD i false = true → ∀ ed ∈ o.after, Region.binds .any ed = true → listed.getD ed.on false = true
theorem mask_listed (ht : topo ops = true) {listed : Array Bool} (hc : Closed ops listed) : ∀ (n i : Nat) (o : Oper), i ≤ n → ops[i]? = some o → (∀ ed ∈ o.after, Region.binds .any ed = true → listed.getD ed.on false = true) →
    ∀ j, ((masks ops).getD i 0).testBit j = true → listed.getD j false = true := by
  intro n
  induction n with
  | zero =>
    intro i o hi ho hr j hj
    have hlt : i < ops.size := (Array.getElem?_eq_some_iff.1 ho).1
    rw [masks_get ho] at hj
    unfold maskOf at hj
    rw [← Array.foldl_toList] at hj
    rcases maskOf_bit _ _ hj with h | ⟨ed, he, hb, h⟩
    · simp at h
    · have := topo_spec ht ho (Array.mem_toList_iff.1 he) hb
      omega
  | succ n ih =>
    intro i o hi ho hr j hj
    have hlt : i < ops.size := (Array.getElem?_eq_some_iff.1 ho).1
    rw [masks_get ho] at hj
    unfold maskOf at hj
    rw [← Array.foldl_toList] at hj
    rcases maskOf_bit _ _ hj with h | ⟨ed, he, hb, h⟩
    · simp at h
    · have hed := topo_spec ht ho (Array.mem_toList_iff.1 he) hb
      have hl := hr ed (Array.mem_toList_iff.1 he) hb
      rcases h with rfl | h
      · exact hl
      · rw [masks_take hed (by omega)] at h
        have : ∃ o', ops[ed.on]? = some o' := ⟨ops[ed.on], Array.getElem?_eq_getElem (by omega)⟩
        obtain ⟨o', ho'⟩ := this
        exact ih ed.on o' (by omega) ho' (hc _ _ ho' hl) j h
end
end Go.Proofs.Ytfclelafcdcilaa.Dv
/- The machine carries out a region as the evaluator does, in any order it may draw. -/
set_option linter.unusedVariables false
set_option linter.unusedSimpArgs false
namespace Go.Proofs.Ytfclelafcdcilaa.Dv
open Go

section
variable {P : Program} {M : Modes} {call : CallF} {ops : Array Oper} {base N : Nat} {Γ Γ' : Ctx} {w w' : World} {σ σ' : Store} {Q : Exit → Act → World → Prop}

/-! ### calls -/
structure Reach (Γ : Ctx) (σ : Store) (w : World) (Γ' : Ctx) (σ' : Store) (w' : World) : Prop where
  tr : Tr Γ σ w Γ' σ' w'
  len : σ.length ≤ σ'.length
  anew : ∀ id, Γ'.A id → Γ.A id ∨ σ.length ≤ id
theorem Reach.refl (Γ : Ctx) (σ : Store) (w : World) : Reach Γ σ w Γ σ w := ⟨.refl _ _ _, Nat.le_refl _, fun _ h => .inl h⟩
theorem Reach.trans {Γ1 Γ2 Γ3 : Ctx} {σ1 σ2 σ3 : Store} {w1 w2 w3 : World} (h : Reach Γ1 σ1 w1 Γ2 σ2 w2) (k : Reach Γ2 σ2 w2 Γ3 σ3 w3) : Reach Γ1 σ1 w1 Γ3 σ3 w3 :=
  ⟨h.tr.trans k.tr, Nat.le_trans h.len k.len, fun id hid => by
    rcases k.anew id hid with h1 | h1
    · exact h.anew id h1
    · exact .inr (Nat.le_trans h.len h1)⟩
def Post (Γ : Ctx) (σ : Store) (w : World) (r : D) (σ' : Store) (x : Ending) (w' : World) : Prop :=
  ∃ v Γ', x = .returned v ∧ R1 Γ' w' r v ∧ SR Γ' σ' w' ∧ Reach Γ σ w Γ' σ' w'
def Enters (P : Program) (f : FuncId) : Prop := ∃ fn, P.funcs[f]? = some fn ∧ fn.name ≠ "runtime.NumGoroutine" ∧ fn.body.isSome = true
/-- A call comes to this: a function's body is gone through, or the model itself has its answer. -/
def Does (P : Program) (f : FuncId) (vargs : Array Value) (w : World) (Q : Ending → World → Prop) : Prop :=
  (Enters P f ∧ Calls P f vargs w Q) ∨ ∃ v w', (callFunc f vargs).run P w = .ok (.value v) w' ∧ Q (.returned v) w'
theorem Does.mono {f : FuncId} {vargs : Array Value} {Q Q' : Ending → World → Prop} (h : Does P f vargs w Q) (hq : ∀ x w', Q x w' → Q' x w') : Does P f vargs w Q' := by
  rcases h with ⟨h1, h2⟩ | ⟨v, w', h1, h2⟩
  · exact .inl ⟨h1, h2.mono hq⟩
  · exact .inr ⟨v, w', h1, hq _ _ h2⟩
theorem Enters.of {f : FuncId} {fn : Func} (hf : P.funcs[f]? = some fn) (h : (fn.name != "runtime.NumGoroutine" && fn.body.isSome) = true) : Enters P f := by
  rw [Bool.and_eq_true, bne_iff_ne] at h
  exact ⟨fn, hf, h.1, h.2⟩
theorem Enters.run {f : FuncId} (h : Enters P f) (vs : Array Value) : (callFunc f vs).run P w = .ok (.enter f vs) w := by
  obtain ⟨fn, hfn, hname, hbody⟩ := h
  have hnb : fn.body.isNone = false := by cases hb : fn.body <;> simp_all
  unfold callFunc
  rw [Sem.run_bind]
  change Result.andThen (.ok P w) _ = _
  rw [Result.andThen_ok]
  simp only [hfn, hnb, beq_eq_false_iff_ne.2 hname, Bool.false_eq_true, if_false]
  rfl
theorem Does.calls {f : FuncId} {vargs : Array Value} {Q : Ending → World → Prop} (h : Does P f vargs w Q) (he : Enters P f) : Calls P f vargs w Q := by
  rcases h with ⟨_, h⟩ | ⟨v, w', h, _⟩
  · exact h
  · rw [he.run] at h; cases h
def CallOk (P : Program) (c : CallF) : Prop :=
  ∀ (f : FuncId) (args : List D) (σ : Store) (r : D) (σ' : Store) (Γ : Ctx) (w : World) (vargs : Array Value), c f args σ = some (r, σ') → SR Γ σ w → R Γ w none args vargs.toList →
    Does P f vargs w (Post Γ σ w r σ')

/-! ### lengths -/
theorem append_len {t : TypeId} {s x : D} {aid : Nat} {σ : Store} {r : D × Store × Foot} (h : evAppend P t s x aid σ = some r) : r.2.1.length = σ.length := by
  unfold evAppend at h
  split at h
  · simp only at h
    split at h
    · split at h
      · split at h
        · split at h
          · split at h
            · injection h with h; subst h; rfl
            · split at h
              · injection h with h; subst h; simp [length_put]
              · cases h
          · split at h
            · split at h
              · split at h
                · injection h with h; subst h; simp [length_put]
                · split at h
                  · injection h with h; subst h; simp [length_put]
                  · split at h
                    · injection h with h; subst h; simp [length_put]
                    · cases h
              · cases h
            · cases h
          · cases h
        · cases h
      · cases h
    · cases h
  · cases h
theorem appendZ_len {t : TypeId} {s : D} {n : Int} {aid : Nat} {σ : Store} {r : D × Store × Foot} (h : evAppendZ P t s n aid σ = some r) : r.2.1.length = σ.length := by
  unfold evAppendZ at h
  split at h
  · simp only at h
    split at h
    · split at h
      · injection h with h; subst h; simp [length_put]
      · cases h
    · cases h
  · simp only at h
    split at h
    · injection h with h; subst h; simp [length_put]
    · cases h
  · cases h
theorem copy_len {t : TypeId} {s x : D} {σ : Store} {r : D × Store × Foot} (h : evCopy P t s x σ = some r) : r.2.1.length = σ.length := by
  unfold evCopy at h
  split at h
  · split at h
    · simp only at h
      split at h
      · injection h with h; subst h; simp [length_put]
      · cases h
    · cases h
  · cases h
theorem clear_len {t : TypeId} {s : D} {σ : Store} {r : D × Store × Foot} (h : evClear P t s σ = some r) : r.2.1.length = σ.length := by
  unfold evClear at h
  split at h
  · simp only at h
    split at h
    · split at h
      · injection h with h; subst h; simp [length_put]
      · cases h
    · cases h
  · cases h
theorem local_len {F : StepF} {σ s : Store} {v : D} {f : Foot} (h : Local F σ v s f) (hf : f ≠ .wrAll ∧ f ≠ .rdAll ∧ ∀ ids, f ≠ .call ids) : s.length = σ.length := by
  cases f with
  | none => rw [h.1]
  | rd => rw [h.1]
  | wr => obtain ⟨o, rfl, _⟩ := h; exact length_put ..
  | new => obtain ⟨o, rfl, _⟩ := h; exact length_put ..
  | app => obtain ⟨os, _, rfl, _⟩ := h; exact puts_length
  | _ => simp at hf
theorem builtin_len {b : Builtin} {ats : List TypeId} {xs : List D} {aid : Nat} {σ : Store} {r : D × Store × Foot} (h : evBuiltin P b ats xs aid σ = some r) : r.2.1.length = σ.length := by
  have h0 := h
  unfold evBuiltin at h
  split at h
  · exact local_len (builtin_local h0) (by rw [builtin_none (.inl rfl) h0]; simp)
  · exact local_len (builtin_local h0) (by rw [builtin_none (.inr (.inl rfl)) h0]; simp)
  · split at h
    · exact append_len h
    · split at h
      · exact appendZ_len h
      · cases h
    · cases h
  · exact copy_len h
  · exact clear_len h
  · exact local_len (builtin_local h0) (by rw [builtin_none (.inr (.inr (.inl rfl))) h0]; simp)
  · exact local_len (builtin_local h0) (by rw [builtin_none (.inr (.inr (.inr rfl))) h0]; simp)
  · cases h
theorem evOp_len {o : Oper} {e : Env} {aid : Nat} {σ : Store} {r : D × Store × Foot} (h : evOp P o e aid σ = some r) : r.2.1.length = σ.length := by
  by_cases hb : ∃ b as ts, o.op = .call { callee := .builtin b, args := as, argTypes := ts }
  · obtain ⟨b, as, ts, ho⟩ := hb
    unfold evOp at h
    simp only [ho] at h
    exact builtin_len h
  · have hs : step P (fun _ _ _ => none) o e aid σ = some r := by
      cases hg : isGo o with
      | false => rw [step_other hg]; exact h
      | true =>
        obtain ⟨f, as, ts, ho⟩ := isGo_true hg
        unfold evOp at h
        simp only [ho] at h
        cases h
    refine local_len (evOp_local h) ?_
    obtain ⟨dst, op, type, pos, after, guard⟩ := o
    cases op
    case call c =>
      obtain ⟨callee, as, ts⟩ := c
      cases callee
      case builtin b => exact absurd ⟨b, as, ts, rfl⟩ hb
      all_goals (simp only [evOp] at h; cases h)
    case store t a x =>
      simp only [evOp] at h
      obtain ⟨⟨s, f⟩, hd, rfl⟩ := Option.map_eq_some_iff.1 h
      simp only
      unfold evStore at hd
      split at hd
      · split at hd
        · split at hd
          · split at hd
            · obtain ⟨y, hy, e⟩ := Option.map_eq_some_iff.1 hd
              injection e with e1 e2
              subst e2
              simp
            · cases hd
          · cases hd
        · cases hd
      · cases hd
    case makeFunc fn first caps =>
      cases fn
      case func => rw [cls_q rfl hs]; simp
      all_goals (simp only [evOp] at h; cases h)
    all_goals first
      | (rw [cls_q rfl hs]; simp; done)
      | (rw [(cls_n rfl hs).1]; simp; done)
      | (have := cls_r rfl hs
         generalize r.2.2 = f at this
         cases f <;> first | (cases this; done) | simp)
      | (simp only [evOp] at h; cases h; done)

/-! ### one operation -/
theorem Slots.put {e : Env} {a : Act} (hsl : Slots Γ w e a) (htr : Tr Γ σ w Γ' σ' w') (hs : SR Γ σ w) {dst : Option Nat} (hd : ∀ d, dst = some d → d < a.tmps.size) {v : D} {u : Value} (hv : R1 Γ' w' v u) : Slots Γ' w' (putO e dst v) (a.put dst u) := by
  intro t
  cases dst with
  | none => exact htr.R hs (hsl t)
  | some d =>
    have hlt := hd d rfl
    by_cases ht : t = d
    · subst ht
      have : (a.put (some t) u).tmps.getD t Go.undef = u := by simp [Act.put, hlt]
      rw [this]
      simpa [putO, Env.put] using hv
    · have : (a.put (some d) u).tmps.getD t Go.undef = a.tmps.getD t Go.undef := by simp [Act.put, Array.getElem?_setIfInBounds_ne (Ne.symm ht)]
      rw [this]
      simpa [putO, Env.put, ht] using htr.R hs (hsl t)
theorem put_size (a : Act) (dst : Option Nat) (v : Value) : (a.put dst v).tmps.size = a.tmps.size := by cases dst <;> simp [Act.put]
theorem put_defers (a : Act) (dst : Option Nat) (v : Value) : (a.put dst v).defers = a.defers := by cases dst <;> rfl
theorem wants_sound {e : Env} {a : Act} (hsl : Slots Γ w e a) {o : Oper} {b : Bool} (h : wants ops e o = some b) : Region.wanted o (yielded ops a.tmps) = b := by
  unfold wants at h
  unfold Region.wanted
  split at h
  · rename_i hg; rw [hg]; injection h
  · rename_i g want hg
    rw [hg]
    simp only
    split at h
    · rename_i d hd
      have hr := hsl d
      unfold yielded
      rw [hd]
      simp only [Option.bind_some]
      split at h
      · rename_i c hc
        injection h with h; subst h
        rw [hc] at hr
        have := R1.bool.1 hr
        cases ht : a.tmps[d]? with
        | none => rw [Array.getD_eq_getD_getElem?, ht] at this; simp [Go.undef] at this
        | some x =>
          rw [Array.getD_eq_getD_getElem?, ht] at this
          simp only [Option.getD_some] at this
          subst this
          cases c <;> cases want <;> rfl
      · rename_i hc
        injection h with h; subst h
        rw [hc] at hr
        have := R1.undef.1 hr
        cases ht : a.tmps[d]? with
        | none => rfl
        | some x =>
          rw [Array.getD_eq_getD_getElem?, ht] at this
          simp only [Option.getD_some] at this
          subst this
          rfl
      · cases h
    · cases h
theorem op_sim (hcall : CallOk P call) {i : Nat} {o : Oper} (ho : ops[i]? = some o) {a : Act} {e : Env} {aid : Nat} {v : D} {f : Foot} (hd : ∀ d, o.dst = some d → d < a.tmps.size)
    (h : stepW P call ops o aid e σ = some (v, σ', f)) (hs : SR Γ σ w) (hsl : Slots Γ w e a) (hal : allocs o = true → ¬ Γ.A aid ∧ aid < σ.length) {K : Act → World → Prop}
    (hK : ∀ u w' Γ', Slots Γ' w' (putO e o.dst v) (a.put o.dst u) → SR Γ' σ' w' → Tr Γ σ w Γ' σ' w' → σ.length ≤ σ'.length → (∀ id, Γ'.A id → Γ.A id ∨ (allocs o = true ∧ id = aid) ∨ σ.length ≤ id) → K (a.put o.dst u) w') :
    wpOp P ops Q i K a w := by
  unfold wpOp
  simp only [ho]
  unfold stepW at h
  split at h
  · rename_i hw
    rw [wants_sound hsl hw]
    simp only [if_true]
    left
    cases hg : isGo o with
    | false =>
      rw [step_other hg] at h
      obtain ⟨nx, w', Γ', u, hr, hn, h1, h2, h3, h4⟩ := evOp_ok hs hsl hal h
      have hlen := evOp_len h
      unfold Oper.wp
      rw [hr]
      have hput := hK u w' Γ' (hsl.put h3 hs hd h1) h2 h3 (by simp only at hlen; omega) (fun id hid => by
        rcases h4 id hid with h4 | h4
        · exact .inl h4
        · by_cases hall : allocs o = true
          · rw [if_pos hall] at h4; injection h4 with h4; exact .inr (.inl ⟨hall, h4⟩)
          · rw [if_neg hall] at h4; cases h4)
      rcases hn with rfl | ⟨rfl, rfl⟩
      · exact hput
      · exact hput
    | true =>
      obtain ⟨g, as, ts, hop⟩ := isGo_true hg
      rw [step_go hop] at h
      split at h
      case h_2 => cases h
      rename_i f' bs hce
      split at h
      case h_2 => cases h
      rename_i r' s' hc
      injection h with h; injection h with e1 h; injection h with e2 e3
      subst e1 e2
      unfold evCallee at hce
      simp only at hce
      split at hce
      case h_2 => cases hce
      rename_i g' first caps hf
      injection hce with hce; injection hce with e4 e5
      subst e4 e5
      have hfr := hsl.opnd g
      rw [hf] at hfr
      obtain ⟨us, ws, hev, hu, hw'⟩ := R1.fn.1 hfr
      have hargs := hsl.opnds as.toList
      have hdoes := hcall _ _ _ _ _ Γ w (us.toArray ++ as.map a.eval ++ ws.toArray) hc hs (by
        simp only [Array.toList_append, Array.toList_map, List.append_assoc]
        exact hu.append (hargs.append hw'))
      have hrun : ∀ R, (callFunc g' (us.toArray ++ as.map a.eval ++ ws.toArray)).run P w = R → (execOp a.eval o).run P w = R := by
        intro R hR
        have he : execOp a.eval o = (do let d ← resolve a.eval { callee := .value g, args := as, argTypes := ts } o.type; invoke d.target d.args) := by unfold execOp; rw [hop]
        rw [he]
        unfold resolve
        simp only [hev]
        exact hR
      unfold Oper.wp
      rcases hdoes with ⟨hent, hcalls⟩ | ⟨v', w'', hr, hp⟩
      · rw [hrun _ (hent.run _), Oper.upon_enter]
        refine hcalls.mono fun x w'' hp => ?_
        obtain ⟨u, Γ', rfl, h1, h2, h3⟩ := hp
        exact hK u w'' Γ' (hsl.put h3.tr hs hd h1) h2 h3.tr h3.len (fun id hid => (h3.anew id hid).imp_right .inr)
      · rw [hrun _ hr]
        obtain ⟨u, Γ', hu', h1, h2, h3⟩ := hp
        injection hu' with hu'
        subst hu'
        exact hK v' w'' Γ' (hsl.put h3.tr hs hd h1) h2 h3.tr h3.len (fun id hid => (h3.anew id hid).imp_right .inr)
  · rename_i hw
    rw [wants_sound hsl hw]
    simp only [Bool.false_eq_true, if_false]
    injection h with h; injection h with e1 h; injection h with e2 e3
    subst e1 e2
    exact hK Go.undef w Γ (hsl.put (.refl _ _ _) hs hd (R1.undef.2 rfl)) hs (.refl _ _ _) (Nat.le_refl _) fun _ h => .inl h
  · cases h

/-! ### regions -/
def Pend (ops : Array Oper) (base : Nat) (Γ : Ctx) (σ : Store) (I : List Nat) : Prop := ∀ i ∈ I, ∀ o, ops[i]? = some o → allocs o = true → ¬ Γ.A (aidAt ops base i) ∧ aidAt ops base i < σ.length
theorem Pend.next {i : Nat} {I : List Nat} (hp : Pend ops base Γ σ I) {o : Oper} (ho : ops[i]? = some o) (hlen : σ.length ≤ σ'.length)
    (hA : ∀ id, Γ'.A id → Γ.A id ∨ (allocs o = true ∧ id = aidAt ops base i) ∨ σ.length ≤ id) {J : List Nat} (hJ : ∀ j ∈ J, j ∈ I ∧ j ≠ i) : Pend ops base Γ' σ' J := by
  intro j hj y hy hal
  obtain ⟨hI, hne⟩ := hJ j hj
  obtain ⟨h1, h2⟩ := hp j hI y hy hal
  refine ⟨fun h => ?_, by omega⟩
  rcases hA _ h with h | ⟨ha, h⟩ | h
  · exact h1 h
  · rcases Nat.lt_or_gt_of_ne hne with hlt | hgt
    · have := aid_lt (base := base) hlt hy hal; omega
    · have := aid_lt (base := base) hgt ho ha; omega
  · omega
def DstOk (ops : Array Oper) (n : Nat) : Prop := ∀ (i : Nat) (o : Oper) (d : Nat), ops[i]? = some o → o.dst = some d → d < n
/-- What a region has come to. -/
def RegEnd (N base : Nat) (Γ : Ctx) (σ : Store) (w : World) (e' : Env) (σ' : Store) (df : List Deferred) (a' : Act) (w' : World) : Prop :=
  ∃ Γ', Slots Γ' w' e' a' ∧ SR Γ' σ' w' ∧ Tr Γ σ w Γ' σ' w' ∧ σ.length ≤ σ'.length ∧ (∀ id, Γ'.A id → Γ.A id ∨ base ≤ id) ∧ a'.tmps.size = N ∧ a'.defers = df
theorem RegEnd.step {N base : Nat} {e' : Env} {σ1 σ' : Store} {Γ1 : Ctx} {w1 : World} {df : List Deferred} {a' : Act} {w' : World} (htr : Tr Γ σ w Γ1 σ1 w1) (hlen : σ.length ≤ σ1.length)
    (hA : ∀ id, Γ1.A id → Γ.A id ∨ base ≤ id) (h : RegEnd N base Γ1 σ1 w1 e' σ' df a' w') : RegEnd N base Γ σ w e' σ' df a' w' := by
  obtain ⟨Γ', h1, h2, h3, h4, h5, h6⟩ := h
  exact ⟨Γ', h1, h2, htr.trans h3, Nat.le_trans hlen h4, fun id hid => by
    rcases h5 id hid with h | h
    · exact hA id h
    · exact .inr h, h6⟩
theorem ops_sim (hcall : CallOk P call) (hdst : DstOk ops N) : ∀ {I : List Nat} {Γ : Ctx} {w : World} {e e' : Env} {σ σ' : Store} {fs : List Foot} {a : Act}, evI P call ops base I e σ = some (e', σ', fs) → Slots Γ w e a → SR Γ σ w →
    a.tmps.size = N → I.Nodup → Pend ops base Γ σ I → base ≤ σ.length → (∀ a' w', RegEnd N base Γ σ w e' σ' a.defers a' w' → Q .normal a' w') → wpOps P ops Q I a w
  | [], Γ, w, e, e', σ, σ', fs, a, h, hsl, hs, hN, _, _, _, hQ => by
    unfold evI at h
    injection h with h; injection h with h1 h; injection h with h2 h3
    subst h1 h2
    exact hQ a w ⟨Γ, hsl, hs, .refl _ _ _, Nat.le_refl _, fun _ h => .inl h, hN, rfl⟩
  | i :: I, Γ, w, e, e', σ, σ', fs, a, h, hsl, hs, hN, hnd, hp, hb, hQ => by
    obtain ⟨o, v, σ1, f, fs', ho, h1, h2, _⟩ := evI_cons.1 h
    rw [wpOps_cons]
    refine op_sim hcall ho (fun d hd => hN ▸ hdst i o d ho hd) h1 hs hsl (fun ha => hp i (List.mem_cons_self ..) o ho ha) ?_
    intro u w1 Γ1 k1 k2 k3 k4 k5
    have hA : ∀ id, Γ1.A id → Γ.A id ∨ base ≤ id := fun id hid => by
      rcases k5 id hid with h | ⟨_, rfl⟩ | h
      · exact .inl h
      · exact .inr (by unfold aidAt; omega)
      · exact .inr (by omega)
    obtain ⟨hni, hnd'⟩ := List.nodup_cons.1 hnd
    refine ops_sim hcall hdst h2 k1 k2 (by rw [put_size]; exact hN) hnd' (hp.next ho k4 k5 fun j hj => ⟨List.mem_cons_of_mem _ hj, fun hh => hni (hh ▸ hj)⟩) (by omega) ?_
    intro a' w' hr
    rw [put_defers] at hr
    exact hQ a' w' (hr.step k3 k4 hA)

/-! ### drawn regions -/
def rem (ops : Array Oper) (listed : Array Bool) : List Nat := (List.range ops.size).filter fun i => !listed.getD i true
theorem mem_rem {listed : Array Bool} {i : Nat} : i ∈ rem ops listed ↔ i < ops.size ∧ listed.getD i true = false := by
  unfold rem
  rw [List.mem_filter, List.mem_range]
  simp
theorem rem_split {listed : Array Bool} (hsz : listed.size = ops.size) {i : Nat} (hi : i ∈ rem ops listed) :
    ∃ pre post, rem ops listed = pre ++ i :: post ∧ rem ops (listed.setIfInBounds i true) = pre ++ post ∧ (∀ j ∈ pre, j < i) ∧ ∀ j ∈ pre ++ post, j ≠ i := by
  obtain ⟨hlt, hun⟩ := mem_rem.1 hi
  have hr : List.range ops.size = List.range i ++ i :: List.range' (i + 1) (ops.size - i - 1) := by
    rw [List.range_eq_range', List.range_eq_range']
    have h1 : i :: List.range' (i + 1) (ops.size - i - 1) = List.range' i (ops.size - i) := by
      have : ops.size - i = (ops.size - i - 1) + 1 := by omega
      conv => rhs; rw [this]
      rfl
    rw [h1]
    have := List.range'_append (s := 0) (m := i) (n := ops.size - i) (step := 1)
    simp only [Nat.one_mul, Nat.zero_add] at this
    rw [this]
    congr 1
    omega
  have hother : ∀ j, j ≠ i → (listed.setIfInBounds i true).getD j true = listed.getD j true := fun j hj => getD_set_ne true (Ne.symm hj)
  refine ⟨(List.range i).filter fun k => !listed.getD k true, (List.range' (i + 1) (ops.size - i - 1)).filter fun k => !listed.getD k true, ?_, ?_, ?_, ?_⟩
  · unfold rem
    rw [hr, List.filter_append, List.filter_cons]
    simp [hun]
  · unfold rem
    rw [hr, List.filter_append, List.filter_cons]
    have hset : (listed.setIfInBounds i true).getD i true = true := by
      simp [hsz, hlt]
    rw [hset]
    simp only [Bool.not_true, Bool.false_eq_true, if_false]
    congr 1
    · refine List.filter_congr fun j hj => ?_
      rw [hother j (by have := List.mem_range.1 hj; omega)]
    · refine List.filter_congr fun j hj => ?_
      rw [hother j (by have := List.mem_range'_1.1 hj; omega)]
  · intro j hj
    exact List.mem_range.1 (List.mem_filter.1 hj).1
  · intro j hj
    rcases List.mem_append.1 hj with hj | hj
    · have := List.mem_range.1 (List.mem_filter.1 hj).1; omega
    · have := List.mem_range'_1.1 (List.mem_filter.1 hj).1; omega
theorem getD_tf {listed : Array Bool} {i : Nat} (h : listed.getD i true = false) : listed.getD i false = false := by
  rcases Nat.lt_or_ge i listed.size with h' | h'
  · simpa [h'] using h
  · simp [Array.getElem?_eq_none h'] at h
/-- All that stand in no order may change places. -/
def AllFine (M : Modes) (ops : Array Oper) (foot : Nat → Foot) : Prop := ∀ i j, i < ops.size → free (masks ops) j i = true → Fine M ops foot j i
theorem draw_sim {run : CallF} (hcall : CallOk P (callD M run)) (hdst : DstOk ops N) (ht : topo ops = true) {foot : Nat → Foot} (hfine : AllFine M ops foot) :
    ∀ (fuel : Nat) {listed : Array Bool} {Γ : Ctx} {w : World} {e e' : Env} {σ σ' : Store} {a : Act}, listed.size = ops.size → Closed ops listed → (rem ops listed).length ≤ fuel →
    evI P (callD M run) ops base (rem ops listed) e σ = some (e', σ', (rem ops listed).map foot) → Slots Γ w e a → SR Γ σ w →
    a.tmps.size = N → Pend ops base Γ σ (rem ops listed) → base ≤ σ.length → (∀ a' w', RegEnd N base Γ σ w e' σ' a.defers a' w' → Q .normal a' w') → wpAny P .any ops Q fuel listed a w := by
  intro fuel
  have done : ∀ {listed : Array Bool} {Γ : Ctx} {w : World} {e e' : Env} {σ σ' : Store} {a : Act}, rem ops listed = [] →
      evI P (callD M run) ops base (rem ops listed) e σ = some (e', σ', (rem ops listed).map foot) → Slots Γ w e a → SR Γ σ w →
      a.tmps.size = N → (∀ a' w', RegEnd N base Γ σ w e' σ' a.defers a' w' → Q .normal a' w') → Q .normal a w := by
    intro listed Γ w e e' σ σ' a hr h hsl hs hN hQ
    rw [hr] at h
    unfold evI at h
    injection h with h; injection h with h1 h; injection h with h2 h3
    subst h1 h2
    exact hQ a w ⟨Γ, hsl, hs, .refl _ _ _, Nat.le_refl _, fun _ h => .inl h, hN, rfl⟩
  have ready_rem : ∀ {listed : Array Bool} {i : Nat}, i ∈ Region.ready .any ops listed → i ∈ rem ops listed := by
    intro listed i hi
    obtain ⟨hu, o, ho, _⟩ := mem_ready.1 hi
    exact mem_rem.2 ⟨(Array.getElem?_eq_some_iff.1 ho).1, hu⟩
  induction fuel with
  | zero =>
    intro listed Γ w e e' σ σ' a hsz hcl hlen h hsl hs hN hp hb hQ
    have hr : rem ops listed = [] := List.eq_nil_of_length_eq_zero (by omega)
    refine ⟨?_, done hr h hsl hs hN hQ⟩
    cases hR : Region.ready .any ops listed with
    | nil => rfl
    | cons i l =>
      have := ready_rem (listed := listed) (i := i) (by rw [hR]; exact List.mem_cons_self ..)
      rw [hr] at this
      cases this
  | succ fuel ih =>
    intro listed Γ w e e' σ σ' a hsz hcl hlen h hsl hs hN hp hb hQ
    refine ⟨fun hR => ?_, fun i hi => ?_⟩
    · cases hr : rem ops listed with
      | nil => exact done hr h hsl hs hN hQ
      | cons i l =>
        exfalso
        have him : i ∈ rem ops listed := by rw [hr]; exact List.mem_cons_self ..
        obtain ⟨hlt, hun⟩ := mem_rem.1 him
        have : i ∈ Region.ready .any ops listed := by
          refine mem_ready.2 ⟨hun, ops[i], Array.getElem?_eq_getElem hlt, fun ed he hbd => ?_⟩
          have hed := topo_spec ht (Array.getElem?_eq_getElem hlt) he hbd
          by_cases hl : listed.getD ed.on true = true
          · have : ed.on < listed.size := by omega
            simpa [this] using hl
          · exfalso
            have hmem : ed.on ∈ rem ops listed := mem_rem.2 ⟨by omega, by simpa using hl⟩
            have hsorted : (rem ops listed).Pairwise (· < ·) := List.Pairwise.filter _ List.pairwise_lt_range
            rw [hr] at hmem hsorted
            rcases List.mem_cons.1 hmem with h | h
            · omega
            · have := (List.pairwise_cons.1 hsorted).1 _ h
              omega
        rw [hR] at this
        cases this
    · have him := ready_rem hi
      obtain ⟨hun, o, ho, hall⟩ := mem_ready.1 hi
      obtain ⟨pre, post, hr, hr', hpre, hne⟩ := rem_split hsz him
      have hml := mask_listed ht hcl i i o (Nat.le_refl _) ho hall
      rw [hr] at h
      obtain ⟨o', v, τ, ho', h1, h2⟩ := bubble (fun j hj => by
        refine ⟨hpre j hj, hfine i j (Array.getElem?_eq_some_iff.1 ho).1 ?_⟩
        unfold free
        have hjun := (mem_rem.1 (show j ∈ rem ops listed by rw [hr]; exact List.mem_append_left _ hj)).2
        have : ((masks ops).getD i 0).testBit j = false := by
          cases hb : ((masks ops).getD i 0).testBit j with
          | false => rfl
          | true => have := hml j hb; rw [getD_tf hjun] at this; cases this
        rw [this]; simp [hpre j hj]) h
      rw [ho] at ho'
      injection ho' with ho'
      subst ho'
      refine op_sim hcall ho (fun d hd => hN ▸ hdst i o d ho hd) h1 hs hsl (fun ha => hp i him o ho ha) ?_
      intro u w1 Γ1 k1 k2 k3 k4 k5
      have hA : ∀ id, Γ1.A id → Γ.A id ∨ base ≤ id := fun id hid => by
        rcases k5 id hid with h | ⟨_, rfl⟩ | h
        · exact .inl h
        · exact .inr (by unfold aidAt; omega)
        · exact .inr (by omega)
      refine ih (by simpa using hsz) ?_ ?_ (by rw [hr']; exact h2) k1 k2 (by rw [put_size]; exact hN) ?_ (by omega) ?_
      · intro k y hy hl ed he hbd
        by_cases hk : k = i
        · subst hk
          rw [ho] at hy
          injection hy with hy
          subst hy
          exact getD_set_true (hall ed he hbd)
        · rw [getD_set_ne false (Ne.symm hk)] at hl
          exact getD_set_true (hcl k y hy hl ed he hbd)
      · rw [hr']
        rw [hr] at hlen
        simp only [List.length_append, List.length_cons] at hlen ⊢
        omega
      · rw [hr']
        refine hp.next ho k4 k5 fun j hj => ⟨?_, hne j hj⟩
        rw [hr]
        rcases List.mem_append.1 hj with h | h
        · exact List.mem_append_left _ h
        · exact List.mem_append_right _ (List.mem_cons_of_mem _ h)
      · intro a' w' hrE
        rw [put_defers] at hrE
        exact hQ a' w' (hrE.step k3 k4 hA)
end
end Go.Proofs.Ytfclelafcdcilaa.Dv
/- The machine carries out code as the evaluator does. -/
set_option linter.unusedVariables false
set_option linter.unusedSimpArgs false
namespace Go.Proofs.Ytfclelafcdcilaa.Dv
open Go

section
variable {P : Program} {M : Modes} {N : Nat} {Γ Γ' : Ctx} {w w' : World} {σ σ' : Store} {Q : Exit → Act → World → Prop}

/-! ### what is asked of the code -/
def dstsOk (n : Nat) (ops : Array Oper) : Bool := ops.all fun o => match o.dst with | some d => decide (d < n) | none => true
def pureC (M : Modes) : Cls → Bool
  | .c f => (M.prim f).isNone && (!M.byref f || M.ro f)
  | _ => true
def noRef (M : Modes) : Cls → Bool
  | .c f => !M.byref f
  | _ => true
def pureOk (M : Modes) (ops : Array Oper) : Bool :=
  let ms := masks ops
  (List.range ops.size).all fun i => (List.range i).all fun j => !free ms j i || match ops[j]?, ops[i]? with
    | some x, some y => cls x == .q || cls y == .q || (pureC M (cls x) && pureC M (cls y) && (!isCN (cls x) (cls y) || (noRef M (cls x) && noRef M (cls y))))
    | _, _ => true
def goodReg (M : Modes) (n : Nat) (ops : Array Oper) (draw : Bool) : Bool := dstsOk n ops && (!draw || (topo ops && pureOk M ops))
def goodCode (M : Modes) (n : Nat) : Code → Bool
  | .skip | .label _ | .ret | .exit _ => true
  | .region _ ops draw => goodReg M n ops draw
  | .seq a b => goodCode M n a && goodCode M n b
  | .cond _ a b => goodCode M n a && goodCode M n b
  | .block _ c => goodCode M n c
  | .scope c => goodCode M n c
  | .loop c => goodCode M n c
  | _ => false
def goodFn (M : Modes) (fn : Func) : Bool :=
  fn.name != "runtime.NumGoroutine" && decide (fn.params.size + fn.nfree ≤ fn.ntmps) && match fn.body with | some c => goodCode M fn.ntmps c | none => false
theorem dstsOk_spec {n : Nat} {ops : Array Oper} (h : dstsOk n ops = true) : DstOk ops n := by
  intro i o d ho hd
  have := Array.all_eq_true_iff_forall_mem.1 h o (Array.mem_of_getElem? ho)
  rw [hd] at this
  simpa using this

/-! ### the end of a piece of code -/
def exOf : Ex → Exit
  | .normal => .normal
  | .exit id => .exit id
  | .ret => .ret
def CodeEnd (N : Nat) (Γ : Ctx) (σ : Store) (w : World) (e' : Env) (σ' : Store) (df : List Deferred) (a' : Act) (w' : World) : Prop :=
  ∃ Γ', Slots Γ' w' e' a' ∧ SR Γ' σ' w' ∧ Reach Γ σ w Γ' σ' w' ∧ a'.tmps.size = N ∧ a'.defers = df
theorem CodeEnd.step {e' : Env} {σ1 : Store} {Γ1 : Ctx} {w1 : World} {df : List Deferred} {a' : Act} (hr : Reach Γ σ w Γ1 σ1 w1) (h : CodeEnd N Γ1 σ1 w1 e' σ' df a' w') : CodeEnd N Γ σ w e' σ' df a' w' := by
  obtain ⟨Γ', h1, h2, h3, h4⟩ := h
  exact ⟨Γ', h1, h2, hr.trans h3, h4⟩

/-! ### regions -/
theorem obj_pad (σ : Store) (n id : Nat) : Store.obj (σ ++ List.replicate n none) id = σ.obj id := by
  unfold Store.obj
  rcases Nat.lt_or_ge id σ.length with h | h
  · rw [List.getElem?_append_left h]
  · rw [List.getElem?_append_right h, List.getElem?_eq_none h, List.getElem?_replicate]
    split <;> rfl
theorem own_pad {n b : Nat} : Own Γ (σ ++ List.replicate n none) b ↔ Own Γ σ b := by
  constructor
  · rintro ⟨id, e, xs, h, hb⟩; exact ⟨id, e, xs, by rw [obj_pad] at h; exact h, hb⟩
  · rintro ⟨id, e, xs, h, hb⟩; exact ⟨id, e, xs, by rw [obj_pad]; exact h, hb⟩
theorem SR.pad (hs : SR Γ σ w) (n : Nat) : SR Γ (σ ++ List.replicate n none) w where
  row id st esz xs h := hs.row id st esz xs (by rw [obj_pad] at h; exact h)
  nomap id st kvs h := hs.nomap id st kvs (by rw [obj_pad] at h; exact h)
  inj id id' o o' h h' := hs.inj id id' o o' (by rw [obj_pad] at h; exact h) (by rw [obj_pad] at h'; exact h')
  live id o h := hs.live id o (by rw [obj_pad] at h; exact h)
  old := hs.old
  below id h := by have := hs.below id h; simp; omega
theorem R.ofHeap (h : w'.heap = w.heap) {m : Option Nat} {ds : List D} {vs : List Value} (hr : R Γ w m ds vs) : R Γ w' m ds vs := hr.mono (.refl _) fun b _ => by rw [h]
theorem RE.ofHeap (h : w'.heap = w.heap) {esz : Nat} {xs : List D} {us rest : List Value} (hr : RE Γ w esz xs us rest) : RE Γ w' esz xs us rest := ⟨hr.r.ofHeap h, hr.one⟩
theorem SR.ofHeap (h : w'.heap = w.heap) (hs : SR Γ σ w) : SR Γ σ w' where
  row id st esz xs ho := by
    obtain ⟨⟨h1, h2, c, e, us, rest, h3, h4, h5, h6⟩, k⟩ := hs.row id st esz xs ho
    exact ⟨⟨h1, h2, c, e, us, rest, by rw [h]; exact h3, h4, h5, h6.ofHeap h⟩, k⟩
  nomap := hs.nomap
  inj := hs.inj
  live := hs.live
  old b hb := by rw [h]; exact hs.old b hb
  below := hs.below
theorem RegEnd.code {n : Nat} {e' : Env} {df : List Deferred} {a' : Act} {w0 : World} (hh : w0.heap = w.heap) (hos : w0.os = w.os) (htp : w0.tape = w.tape) (hout : w0.output = w.output) (hdr : w.drawn ≤ w0.drawn)
    (h : RegEnd N σ.length Γ (σ ++ List.replicate n none) w0 e' σ' df a' w') : CodeEnd N Γ σ w e' σ' df a' w' := by
  obtain ⟨Γ', h1, h2, h3, h4, h5, h6, h7⟩ := h
  refine ⟨Γ', h1, h2, ⟨⟨h3.agree, fun b hb => ?_, fun b hb => ?_, fun b hb hn => ?_, h3.os.trans hos, h3.tape.trans htp, h3.output.trans hout, by rw [← hh]; exact h3.size, Nat.le_trans hdr h3.drawn⟩, by simp at h4; omega, h5⟩, h6, h7⟩
  · rcases h3.cnew b hb with h | h | h
    · exact .inl h
    · exact .inr (.inl (by rw [← hh]; exact h))
    · exact .inr (.inr (own_pad.1 h))
  · rcases h3.own b hb with h | h
    · exact .inl (own_pad.1 h)
    · exact .inr (by rw [← hh]; exact h)
  · rw [h3.kept b (by rw [hh]; exact hb) (fun h => hn (own_pad.1 h)), hh]
theorem pureC_spec {c : Cls} {f : FuncId} (h : pureC M c = true) (hc : c = .c f) : M.prim f = none ∧ (M.byref f = false ∨ M.ro f = true) := by
  subst hc
  simpa [pureC] using h
theorem allFine {ops : Array Oper} (hp : pureOk M ops = true) {fs : List Foot} (h : (badPairs ops).isEmpty = true ∨ feetOk ops (badPairs ops) fs = true) : AllFine M ops (fun i => fs.getD i .wrAll) := by
  intro i j hi hf x y hx hy
  have hji : j < i := by
    unfold free at hf
    simp only [Bool.and_eq_true, decide_eq_true_eq] at hf
    exact hf.1
  by_cases hok : pairOk ops j i = true
  · have hok' := hok
    unfold pairOk at hok'
    simp only [hx, hy, Bool.and_eq_true] at hok'
    refine ⟨hok'.1, .inl ⟨hok'.2, fun f hcf => ?_⟩⟩
    unfold pureOk at hp
    have h1 := List.all_eq_true.1 (List.all_eq_true.1 hp i (List.mem_range.2 hi)) j (List.mem_range.2 hji)
    simp only [hf, hx, hy, Bool.not_true, Bool.false_or, Bool.or_eq_true, Bool.and_eq_true, beq_iff_eq] at h1
    rcases h1 with (h1 | h1) | h1
    · exact .inl h1
    · exact .inr (.inl h1)
    · rcases hcf with hcf | hcf
      · exact .inr (.inr (pureC_spec h1.1.1 hcf))
      · exact .inr (.inr (pureC_spec h1.1.2 hcf))
  · have hmem : (j, i) ∈ badPairs ops := by
      unfold badPairs
      simp only [List.mem_flatMap, List.mem_map, List.mem_filter, List.mem_range]
      exact ⟨i, hi, j, ⟨hji, by simp [hf, hok]⟩, rfl⟩
    rcases h with h | h
    · rw [List.isEmpty_iff] at h
      rw [h] at hmem
      cases hmem
    · unfold feetOk at h
      have := List.all_eq_true.1 h _ hmem
      simp only [hx, hy, Bool.and_eq_true, Bool.or_eq_true] at this
      refine ⟨this.1, .inr ?_⟩
      rcases this.2 with h2 | ⟨h2, h3⟩
      · exact .inl h2
      · refine .inr ⟨h2, fun f hcf => ?_, h3⟩
        unfold pureOk at hp
        have h1 := List.all_eq_true.1 (List.all_eq_true.1 hp i (List.mem_range.2 hi)) j (List.mem_range.2 hji)
        simp only [hf, hx, hy, Bool.not_true, Bool.false_or, Bool.or_eq_true, Bool.and_eq_true, beq_iff_eq, h2, Bool.false_eq_true, or_false, false_or] at h1
        rcases h1 with (h1 | h1) | h1
        · rw [h1] at h2; cases h4 : cls y <;> rw [h4] at h2 <;> cases h2
        · rw [h1] at h2; cases h4 : cls x <;> rw [h4] at h2 <;> cases h2
        · rcases hcf with hcf | hcf
          · have := h1.2.1; rw [hcf] at this; exact ⟨(pureC_spec h1.1.1 hcf).1, by simpa [noRef] using this⟩
          · have := h1.2.2; rw [hcf] at this; exact ⟨(pureC_spec h1.1.2 hcf).1, by simpa [noRef] using this⟩
theorem map_getD {fs : List Foot} {n : Nat} (h : fs.length = n) : (List.range n).map (fun i => fs.getD i .wrAll) = fs := by
  apply List.ext_getElem?
  intro i
  rw [List.getElem?_map]
  rcases Nat.lt_or_ge i n with hi | hi
  · rw [List.getElem?_range hi]
    have : i < fs.length := by omega
    simp [this]
  · rw [List.getElem?_eq_none (by simpa using hi), List.getElem?_eq_none (by omega)]; rfl
theorem region_sim {run : CallF} {loop : LoopF} (hcall : CallOk P (callD M run)) (hmix : P.follows .mixedOrders = true) {id : Nat} {ops : Array Oper} {draw : Bool} (hgood : goodReg M N ops draw = true) {e e' : Env} {ex : Ex} {a : Act}
    (h : evCode P (callD M run) loop (.region id ops draw) e σ = some (ex, e', σ')) (hsl : Slots Γ w e a) (hs : SR Γ σ w) (hN : a.tmps.size = N)
    (hQ : ∀ a' w', CodeEnd N Γ σ w e' σ' a.defers a' w' → Q (exOf ex) a' w') : (Code.region id ops draw).wp P Q a w := by
  unfold evCode at h
  split at h
  case isFalse => cases h
  rename_i hdraw
  obtain ⟨⟨e1, σ1⟩, hev, heq⟩ := Option.map_eq_some_iff.1 h
  injection heq with h1 heq
  injection heq with h2 h3
  subst h1 h2 h3
  simp only [goodReg, Bool.and_eq_true, Bool.or_eq_true, Bool.not_eq_true'] at hgood
  obtain ⟨hdst, hdr⟩ := hgood
  have haid : aidAt ops σ.length 0 = σ.length := by simp [aidAt, nallocs]
  rw [← haid] at hev
  obtain ⟨fs, k1, k2, k3⟩ := evL_I ops.toList 0 (by simp) hev
  rw [haid] at k2
  have hpend : ∀ (Γ0 : Ctx) (I : List Nat), Γ0 = Γ → Pend ops σ.length Γ0 (σ ++ List.replicate (nallocs ops.toList) none) I := by
    rintro Γ0 I rfl i hi o ho hal
    have ht := aid_total (base := σ.length) ho hal
    refine ⟨fun hA => ?_, by simpa using ht⟩
    have := hs.below _ hA
    unfold aidAt at this
    omega
  simp only [Array.length_toList, ← List.range_eq_range'] at k1
  cases draw with
  | false =>
    refine wp_region ?_
    refine ops_sim hcall (dstsOk_spec hdst) k1 hsl (hs.pad _) hN List.nodup_range (hpend _ _ rfl) (by simp) ?_
    intro a' w' hr
    exact hQ a' w' (hr.code rfl rfl rfl rfl (Nat.le_refl _))
  | true =>
    obtain ⟨htopo, hpure⟩ := hdr.resolve_left (by simp)
    have hfine : AllFine M ops (fun i => fs.getD i .wrAll) := by
      refine allFine hpure ?_
      unfold drawOk at hdraw
      by_cases hb : (badPairs ops).isEmpty = true
      · exact .inl hb
      · simp only [hb, Bool.not_false, Bool.and_self, if_true, k2] at hdraw
        exact .inr hdraw
    refine wp_region_any hmix ?_
    have hrem : rem ops (Array.replicate ops.size false) = List.range ops.size := by
      unfold rem
      rw [List.filter_eq_self]
      intro i hi
      have := List.mem_range.1 hi
      simp [this]
    refine draw_sim hcall (dstsOk_spec hdst) htopo hfine ops.size (by simp) ?_ (by rw [hrem]; simp) (base := σ.length) (Γ := Γ) (e := e) (σ := σ ++ List.replicate (nallocs ops.toList) none) (e' := e1) (σ' := σ1) ?_ ?_ ?_ hN ?_ (by simp) ?_
    · intro i o ho hl
      exfalso
      have hlt : i < ops.size := (Array.getElem?_eq_some_iff.1 ho).1
      simp [hlt] at hl
    · rw [hrem, map_getD (by simpa using k3)]
      exact k1
    · exact fun t => R.ofHeap (w := w) (w' := { w with drawn := w.drawn + 1 }) rfl (hsl t)
    · exact SR.ofHeap (w := w) (w' := { w with drawn := w.drawn + 1 }) rfl (hs.pad _)
    · exact hpend _ _ rfl
    · intro a' w' hr
      exact hQ a' w' (RegEnd.code (w := w) (w0 := { w with drawn := w.drawn + 1 }) rfl rfl rfl rfl (Nat.le_succ _) hr)

/-! ### code -/
def LoopOk (P : Program) (M : Modes) (loop : LoopF) : Prop :=
  ∀ (c : Code) (N : Nat) (e : Env) (σ : Store) (ex : Ex) (e' : Env) (σ' : Store) (Γ : Ctx) (w : World) (a : Act) (Q : Exit → Act → World → Prop), goodCode M N c = true → loop c e σ = some (ex, e', σ') → Slots Γ w e a → SR Γ σ w → a.tmps.size = N →
    (∀ a' w', CodeEnd N Γ σ w e' σ' a.defers a' w' → Q (exOf ex) a' w') → (Code.loop c).wp P Q a w
theorem code_sim {run : CallF} {loop : LoopF} (hcall : CallOk P (callD M run)) (hloop : LoopOk P M loop) (hmix : P.follows .mixedOrders = true) :
    ∀ (c : Code) {Γ : Ctx} {w : World} {e e' : Env} {σ σ' : Store} {ex : Ex} {a : Act} {Q : Exit → Act → World → Prop}, goodCode M N c = true → evCode P (callD M run) loop c e σ = some (ex, e', σ') → Slots Γ w e a → SR Γ σ w → a.tmps.size = N →
    (∀ a' w', CodeEnd N Γ σ w e' σ' a.defers a' w' → Q (exOf ex) a' w') → c.wp P Q a w := by
  intro c
  have same : ∀ {Γ : Ctx} {w : World} {e : Env} {σ : Store} {a : Act}, Slots Γ w e a → SR Γ σ w → a.tmps.size = N → CodeEnd N Γ σ w e σ a.defers a w := fun h1 h2 h3 => ⟨_, h1, h2, .refl _ _ _, h3, rfl⟩
  induction c with
  | skip =>
    intro Γ w e e' σ σ' ex a Q hg h hsl hs hN hQ
    unfold evCode at h
    injection h with h; injection h with h1 h; injection h with h2 h3; subst h1 h2 h3
    exact wp_skip (hQ _ _ (same hsl hs hN))
  | label l =>
    intro Γ w e e' σ σ' ex a Q hg h hsl hs hN hQ
    unfold evCode at h
    injection h with h; injection h with h1 h; injection h with h2 h3; subst h1 h2 h3
    exact wp_label (hQ _ _ (same hsl hs hN))
  | ret =>
    intro Γ w e e' σ σ' ex a Q hg h hsl hs hN hQ
    unfold evCode at h
    injection h with h; injection h with h1 h; injection h with h2 h3; subst h1 h2 h3
    exact wp_ret (hQ _ _ (same hsl hs hN))
  | exit id =>
    intro Γ w e e' σ σ' ex a Q hg h hsl hs hN hQ
    unfold evCode at h
    injection h with h; injection h with h1 h; injection h with h2 h3; subst h1 h2 h3
    exact wp_exit (hQ _ _ (same hsl hs hN))
  | region id ops draw =>
    intro Γ w e e' σ σ' ex a Q hg h hsl hs hN hQ
    exact region_sim hcall hmix hg h hsl hs hN hQ
  | seq x y ihx ihy =>
    intro Γ w e e' σ σ' ex a Q hg h hsl hs hN hQ
    simp only [goodCode, Bool.and_eq_true] at hg
    unfold evCode at h
    refine wp_seq ?_
    cases hx : evCode P (callD M run) loop x e σ with
    | none => rw [hx] at h; cases h
    | some q =>
      obtain ⟨ex1, e1, σ1⟩ := q
      rw [hx] at h
      refine ihx hg.1 hx hsl hs hN ?_
      intro a1 w1 hc
      cases ex1 with
      | normal =>
        obtain ⟨Γ1, k1, k2, k3, k4, k5⟩ := hc
        refine ihy hg.2 h k1 k2 k4 ?_
        intro a' w' hc'
        rw [k5] at hc'
        exact hQ a' w' (hc'.step k3)
      | exit id =>
        injection h with h; injection h with h1 h; injection h with h2 h3; subst h1 h2 h3
        exact hQ a1 w1 hc
      | ret =>
        injection h with h; injection h with h1 h; injection h with h2 h3; subst h1 h2 h3
        exact hQ a1 w1 hc
  | cond c x y ihx ihy =>
    intro Γ w e e' σ σ' ex a Q hg h hsl hs hN hQ
    simp only [goodCode, Bool.and_eq_true] at hg
    have hc := hsl.opnd c
    unfold evCode at h
    split at h
    · rename_i ho
      rw [ho] at hc
      exact wp_cond_true (R1.bool.1 hc) (ihx hg.1 h hsl hs hN hQ)
    · rename_i ho
      rw [ho] at hc
      exact wp_cond_false (R1.bool.1 hc) (ihy hg.2 h hsl hs hN hQ)
    · cases h
  | block id x ih =>
    intro Γ w e e' σ σ' ex a Q hg h hsl hs hN hQ
    unfold evCode at h
    refine wp_block ?_
    cases hx : evCode P (callD M run) loop x e σ with
    | none => rw [hx] at h; cases h
    | some q =>
      obtain ⟨ex1, e1, σ1⟩ := q
      rw [hx] at h
      refine ih hg hx hsl hs hN ?_
      intro a1 w1 hc
      cases ex1 with
      | normal =>
        injection h with h; injection h with h1 h; injection h with h2 h3; subst h1 h2 h3
        exact hQ a1 w1 hc
      | exit id' =>
        simp only at h
        simp only [exOf, Exit.inBlock]
        by_cases hid : id' = id
        · rw [if_pos hid] at h ⊢
          injection h with h; injection h with h1 h; injection h with h2 h3; subst h1 h2 h3
          exact hQ a1 w1 hc
        · rw [if_neg hid] at h ⊢
          injection h with h; injection h with h1 h; injection h with h2 h3; subst h1 h2 h3
          exact hQ a1 w1 hc
      | ret =>
        injection h with h; injection h with h1 h; injection h with h2 h3; subst h1 h2 h3
        exact hQ a1 w1 hc
  | scope x ih =>
    intro Γ w e e' σ σ' ex a Q hg h hsl hs hN hQ
    unfold evCode at h
    refine wp_scope_straight (ih hg h hsl hs hN fun a1 w1 hc => ?_)
    have := hQ a1 w1 hc
    cases ex <;> exact this
  | loop x _ =>
    intro Γ w e e' σ σ' ex a Q hg h hsl hs hN hQ
    unfold evCode at h
    exact hloop x N e σ ex e' σ' Γ w a Q hg h hsl hs hN hQ
  | _ => intro Γ w e e' σ σ' ex a Q hg; simp [goodCode] at hg

/-! ### results -/
theorem res_ok {e : Env} {a : Act} (hs : SR Γ σ w) (hsl : Slots Γ w e a) {rv : ResultVar} {d : D} (h : resD P e σ rv = some d) :
    ∃ v, (match rv with | .tmp t => (pure (a.tmps.getD t Go.undef) : Sem Value) | .cell x t => do loadVar t (← asAddr (a.tmps.getD x Go.undef))).run P w = .ok v w ∧ R1 Γ w d v := by
  cases rv with
  | tmp t =>
    unfold resD at h
    injection h with h; subst h
    exact ⟨_, rfl, hsl t⟩
  | cell x t =>
    unfold resD at h
    obtain ⟨⟨v, f⟩, hv, rfl⟩ := Option.map_eq_some_iff.1 h
    have hd := hsl x
    unfold evLoad at hv
    split at hv
    · rename_i id i j hex
      rw [hex] at hd
      split at hv
      · rename_i st esz xs ho
        split at hv
        · rename_i y hy
          obtain ⟨hA, hval⟩ := R1.ptr.1 hd
          obtain ⟨v', hv', hh⟩ := Option.map_eq_some_iff.1 hv
          injection hh with hh1 hh2
          subst hh1
          obtain ⟨he, _, us, hu, hc⟩ := row_cells (hs.row _ _ _ _ ho).1 hy
          obtain ⟨z, hz, hr⟩ := sub_run hv' he hu hc
          refine ⟨z, ?_, hr⟩
          simp only [hval]
          simpa [asAddr, adr] using hz
        · cases hv
      · cases hv
    · rename_i y j hex
      rw [hex] at hd
      obtain ⟨us, b, o, hval, hp, he, hu, hC, hc⟩ := R1.cpt.1 hd
      obtain ⟨v', hv', hh⟩ := Option.map_eq_some_iff.1 hv
      injection hh with hh1 hh2
      subst hh1
      obtain ⟨z, hz, hr⟩ := sub_run hv' he hu hc
      refine ⟨z, ?_, hr⟩
      simp only [hval]
      simpa [asAddr] using hz
    · cases hv
theorem results_list {e : Env} {a : Act} (hs : SR Γ σ w) (hsl : Slots Γ w e a) : ∀ {l : List ResultVar} {ds : List D}, l.mapM (resD P e σ) = some ds →
    ∃ vs, (l.mapM fun rv : ResultVar => match rv with | .tmp t => (pure (a.tmps.getD t Go.undef) : Sem Value) | .cell x t => do loadVar t (← asAddr (a.tmps.getD x Go.undef))).run P w = .ok vs w ∧ R Γ w none ds vs
  | [], ds, h => by
    simp only [List.mapM_nil] at h
    injection h with h; subst h
    exact ⟨[], rfl, .nil _⟩
  | rv :: l, ds, h => by
    rw [List.mapM_cons] at h
    cases h1 : resD P e σ rv with
    | none => simp [h1] at h
    | some d =>
      cases h2 : l.mapM (resD P e σ) with
      | none => simp [h1, h2] at h
      | some ds' =>
        simp [h1, h2] at h
        subst h
        obtain ⟨v, hv, hr⟩ := res_ok hs hsl h1
        obtain ⟨vs, hvs, hrs⟩ := results_list hs hsl h2
        refine ⟨v :: vs, ?_, R.cons hr hrs⟩
        rw [List.mapM_cons, Sem.run_bind, hv, Result.andThen_ok, Sem.run_bind, hvs]
        rfl
theorem results_ok {e : Env} {a : Act} (hs : SR Γ σ w) (hsl : Slots Γ w e a) {fn : Func} {d : D} (h : resultsD P fn.results.toList e σ = some d) :
    ∃ v, (results fn a.tmps).run P w = .ok v w ∧ R1 Γ w d v := by
  have key : ∀ (vs : List Value), (fn.results.toList.mapM fun rv : ResultVar => match rv with | .tmp t => (pure (a.tmps.getD t Go.undef) : Sem Value) | .cell x t => do loadVar t (← asAddr (a.tmps.getD x Go.undef))).run P w = .ok vs w →
      (results fn a.tmps).run P w = .ok (if h : vs.length = 1 then vs[0] else .tuple vs.toArray) w := by
    intro vs hvs
    unfold results
    rw [Array.mapM_eq_mapM_toList, Sem.run_bind, Sem.run_map]
    erw [hvs]
    simp only [Result.andThen_ok]
    by_cases h1 : vs.length = 1
    · simp [h1]
    · simp [h1]
  unfold resultsD at h
  split at h
  · rename_i r hr
    obtain ⟨vs, hvs, hrel⟩ := results_list (ds := [d]) hs hsl (l := fn.results.toList) (by rw [hr, List.mapM_cons, h]; rfl)
    have hl := hrel.length
    refine ⟨_, key vs hvs, ?_⟩
    obtain ⟨v, vs', rfl, h1, h2⟩ := hrel.cons_inv
    rw [h2.nil_inv]
    exact h1
  · rename_i hne
    obtain ⟨ds, hds, rfl⟩ := Option.map_eq_some_iff.1 h
    obtain ⟨vs, hvs, hrel⟩ := results_list hs hsl hds
    refine ⟨_, key vs hvs, ?_⟩
    have hl := hrel.length
    have hn : vs.length ≠ 1 := by
      intro h1
      rw [h1] at hl
      have h3 : fn.results.toList.length = 1 := by
        have : ∀ {l : List ResultVar} {ds : List D}, l.mapM (resD P e σ) = some ds → ds.length = l.length := by
          intro l
          induction l with
          | nil => intro ds h; simp only [List.mapM_nil] at h; injection h with h; subst h; rfl
          | cons x l ih =>
            intro ds h
            rw [List.mapM_cons] at h
            cases h1 : resD P e σ x with
            | none => simp [h1] at h
            | some d =>
              cases h2 : l.mapM (resD P e σ) with
              | none => simp [h1, h2] at h
              | some ds' => simp [h1, h2] at h; subst h; simp [ih h2]
        rw [← this hds]; exact hl
      obtain ⟨r, hr⟩ := List.length_eq_one_iff.1 h3
      exact hne r hr
    rw [dif_neg hn]
    exact R1.tup.2 ⟨vs, rfl, hrel⟩
end
end Go.Proofs.Ytfclelafcdcilaa.Dv
/- Calls that hand out data alone; the evaluator is sound for the machine. -/
set_option linter.unusedVariables false
set_option linter.unusedSimpArgs false
namespace Go.Proofs.Ytfclelafcdcilaa.Dv
open Go

section
variable {P : Program} {M : Modes} {N : Nat} {Γ Γ' : Ctx} {w w' : World} {σ σ' : Store}

/-! ### slices as data -/
theorem sl_of_ms (hs : SR Γ σ w) {id off len cap : Nat} {ex : Bool} {v : Value} (h : R1 Γ w (.ms id off len cap ex) v) {st : St} {esz : Nat} {xs : List D} (ho : σ.obj id = some (.row st esz xs)) (hle : off + len ≤ xs.length)
    (hp : ((xs.drop off).take len).all D.pure = true) (ha : Agree Γ Γ') (hC : Γ'.C (Γ.ρ id)) : R1 Γ' w (.sl (ex && decide (cap = len)) ((xs.drop off).take len)) v := by
  obtain ⟨hA, a, c, rfl, h1, h2, h3, h4, h5, h6⟩ := R1.ms.1 h
  obtain ⟨⟨he, hz, cc, e, us, rest, hh, hb, hc, ⟨hr, _⟩⟩, _⟩ := hs.row _ _ _ _ ho
  have hr2 := ((hr.takeE off (by omega)).2.takeE len (by rw [List.length_drop]; omega)).1
  have hlen : ((xs.drop off).take len).length = len := by rw [List.length_take, List.length_drop]; omega
  refine R1.sl.2 ⟨a, c, esz, (us.drop (off * esz)).take (len * esz), by rw [hlen], hp, by rw [hlen]; exact h1, h6, fun hf => ?_, hr2.mono ha (fun _ _ => rfl), hz, fun hne => ?_⟩
  · simp only [Bool.and_eq_true, decide_eq_true_eq] at hf
    rw [hlen, h3 hf.1, hf.2]
  · rcases h4 with h4 | h4
    · exfalso
      apply hne
      apply List.eq_nil_of_length_eq_zero
      omega
    · refine ⟨Γ.ρ id, off * Γ.ez id + 0, by rw [h4]; rfl, hC, fun k u hu => ?_⟩
      rw [cell_of_row w _ _ cc e (0, 0) hh]
      rw [List.getElem?_take] at hu
      split at hu
      · rw [List.getElem?_drop] at hu
        have hk : (us ++ rest)[off * esz + k]? = some u := by rw [List.getElem?_append_left (List.getElem?_eq_some_iff.1 hu).1]; exact hu
        rw [← hc] at hk
        rw [← he]
        simpa using hk
      · cases hu
def Rows1 (σ : Store) (id : Nat) : Prop := ∃ st e xs, σ.obj id = some (.row st e xs)
theorem lendLeaf_ok (hs : SR Γ σ w) (ha : Agree Γ Γ') {d : D} {v : Value} (h : R1 Γ w d v) (hC : ∀ id ∈ (lendLeaf σ d).2, Γ'.C (Γ.ρ id)) : R1 Γ' w (lendLeaf σ d).1 v := by
  have other : R1 Γ' w d v := h.mono ha fun _ _ => rfl
  unfold lendLeaf at hC ⊢
  split
  · split
    · rename_i ho
      split
      · rename_i hc
        refine sl_of_ms hs h ho hc.1 hc.2 ha (hC _ ?_)
        simp only [ho]
        rw [if_pos hc]
        exact List.mem_cons_self ..
      · exact other
    · exact other
  · exact other
theorem lendLeaf_leaf {d : D} (h : d.leaf = true) : (lendLeaf σ d).1.leaf = true := by
  unfold lendLeaf
  split
  · split
    · split <;> rfl
    · rfl
  · exact h
theorem lendLeaf_rows {d : D} : ∀ id ∈ (lendLeaf σ d).2, Rows1 σ id := by
  intro id hid
  unfold lendLeaf at hid
  split at hid
  · split at hid
    · rename_i ho
      split at hid
      · simp only [List.mem_singleton] at hid; subst hid; exact ⟨_, _, _, ho⟩
      · cases hid
    · cases hid
  · cases hid
theorem lendLeafs_ok (hs : SR Γ σ w) (ha : Agree Γ Γ') : ∀ {ds : List D} {vs : List Value}, R Γ w none ds vs → (∀ id ∈ ds.flatMap fun d => (lendLeaf σ d).2, Γ'.C (Γ.ρ id)) → R Γ' w none (ds.map fun d => (lendLeaf σ d).1) vs
  | [], vs, h, _ => by rw [h.nil_inv]; exact .nil _
  | d :: ds, vs, h, hC => by
    obtain ⟨v, vs', rfl, h1, h2⟩ := h.cons_inv
    simp only [List.flatMap_cons, List.mem_append] at hC
    exact R.cons (lendLeaf_ok hs ha h1 fun id hid => hC id (.inl hid)) (lendLeafs_ok hs ha h2 fun id hid => hC id (.inr hid))
theorem lend_ok (hs : SR Γ σ w) (ha : Agree Γ Γ') {d : D} {v : Value} (h : R1 Γ w d v) (hC : ∀ id ∈ (lend σ d).2, Γ'.C (Γ.ρ id)) : R1 Γ' w (lend σ d).1 v := by
  cases d with
  | agg ds =>
    obtain ⟨us, rfl, hr, hl⟩ := R1.agg.1 h
    refine R1.agg.2 ⟨us, rfl, lendLeafs_ok hs ha hr hC, ?_⟩
    rw [List.all_map]
    rw [List.all_eq_true] at hl ⊢
    exact fun d hd => lendLeaf_leaf (hl d hd)
  | _ => exact lendLeaf_ok hs ha h hC
theorem lend_rows {d : D} : ∀ id ∈ (lend σ d).2, Rows1 σ id := by
  cases d with
  | agg ds =>
    intro id hid
    obtain ⟨d, _, h⟩ := List.mem_flatMap.1 hid
    exact lendLeaf_rows id h
  | _ => exact lendLeaf_rows
theorem lends_ok (hs : SR Γ σ w) (ha : Agree Γ Γ') : ∀ {ds : List D} {vs : List Value}, R Γ w none ds vs → (∀ id ∈ ds.flatMap fun d => (lend σ d).2, Γ'.C (Γ.ρ id)) → R Γ' w none (ds.map fun d => (lend σ d).1) vs
  | [], vs, h, _ => by rw [h.nil_inv]; exact .nil _
  | d :: ds, vs, h, hC => by
    obtain ⟨v, vs', rfl, h1, h2⟩ := h.cons_inv
    simp only [List.flatMap_cons, List.mem_append] at hC
    exact R.cons (lend_ok hs ha h1 fun id hid => hC id (.inl hid)) (lends_ok hs ha h2 fun id hid => hC id (.inr hid))
theorem lends_rows {ds : List D} : ∀ id ∈ ds.flatMap fun d => (lend σ d).2, Rows1 σ id := fun id hid => by
  obtain ⟨d, _, h⟩ := List.mem_flatMap.1 hid
  exact lend_rows id h

/-! ### what is handed out -/
theorem frzLeaf_ok (hs : SR Γ σ w) (ha : Agree Γ Γ') {base : Nat} {d d' : D} {v : Value} (h : R1 Γ w d v) (hf : frzLeaf base σ d = some d')
    (hC : ∀ id st e xs, st ≠ .shut → σ.obj id = some (.row st e xs) → Γ'.C (Γ.ρ id)) : R1 Γ' w d' v ∧ d'.pleaf = true := by
  unfold frzLeaf at hf
  split at hf
  · split at hf
    · rename_i ho
      split at hf
      · rename_i hc
        injection hf with hf
        subst hf
        exact ⟨sl_of_ms hs h ho hc.2.1 hc.2.2 ha (hC _ _ _ _ hc.1 ho), rfl⟩
      · cases hf
    · cases hf
  · split at hf
    · rename_i hp
      injection hf with hf
      subst hf
      exact ⟨h.mono ha fun _ _ => rfl, hp⟩
    · cases hf
theorem mapM_cons_inv {α β : Type} {f : α → Option β} {x : α} {l : List α} {ys : List β} (h : (x :: l).mapM f = some ys) : ∃ y ys', f x = some y ∧ l.mapM f = some ys' ∧ ys = y :: ys' := by
  rw [List.mapM_cons] at h
  cases h1 : f x with
  | none => simp [h1] at h
  | some y =>
    cases h2 : l.mapM f with
    | none => simp [h1, h2] at h
    | some ys' => simp [h1, h2] at h; exact ⟨y, ys', rfl, rfl, h.symm⟩
theorem frzLeafs_ok (hs : SR Γ σ w) (ha : Agree Γ Γ') {base : Nat} (hC : ∀ id st e xs, st ≠ .shut → σ.obj id = some (.row st e xs) → Γ'.C (Γ.ρ id)) : ∀ {ds ds' : List D} {vs : List Value}, R Γ w none ds vs → ds.mapM (frzLeaf base σ) = some ds' →
    R Γ' w none ds' vs ∧ ds'.all D.pleaf = true
  | [], ds', vs, h, hf => by
    simp only [List.mapM_nil] at hf
    injection hf with hf; subst hf
    rw [h.nil_inv]
    exact ⟨.nil _, rfl⟩
  | d :: ds, ds', vs, h, hf => by
    obtain ⟨v, vs', rfl, h1, h2⟩ := h.cons_inv
    obtain ⟨y, ys, e1, e2, rfl⟩ := mapM_cons_inv hf
    obtain ⟨k1, k2⟩ := frzLeaf_ok hs ha h1 e1 hC
    obtain ⟨l1, l2⟩ := frzLeafs_ok hs ha hC h2 e2
    exact ⟨R.cons k1 l1, by rw [List.all_cons, k2, l2]; rfl⟩
theorem pleaf_leaf {d : D} (h : d.pleaf = true) : d.leaf = true := by cases d <;> first | rfl | (cases h)
theorem pleaf_pure {d : D} (h : d.pleaf = true) : d.pure = true := by cases d <;> first | (exact h) | (cases h)
theorem frzVal_ok (hs : SR Γ σ w) (ha : Agree Γ Γ') {base : Nat} {d d' : D} {v : Value} (h : R1 Γ w d v) (hf : frzVal base σ d = some d')
    (hC : ∀ id st e xs, st ≠ .shut → σ.obj id = some (.row st e xs) → Γ'.C (Γ.ρ id)) : R1 Γ' w d' v ∧ d'.pure = true := by
  cases d with
  | agg ds =>
    simp only [frzVal] at hf
    obtain ⟨ds', hds, rfl⟩ := Option.map_eq_some_iff.1 hf
    obtain ⟨us, rfl, hr, hl⟩ := R1.agg.1 h
    obtain ⟨k1, k2⟩ := frzLeafs_ok hs ha hC hr hds
    refine ⟨R1.agg.2 ⟨us, rfl, k1, ?_⟩, k2⟩
    rw [List.all_eq_true] at k2 ⊢
    exact fun d hd => pleaf_leaf (k2 d hd)
  | _ =>
    obtain ⟨k1, k2⟩ := frzLeaf_ok (base := base) hs ha h hf hC
    exact ⟨k1, pleaf_pure k2⟩
theorem frzVals_ok (hs : SR Γ σ w) (ha : Agree Γ Γ') {base : Nat} (hC : ∀ id st e xs, st ≠ .shut → σ.obj id = some (.row st e xs) → Γ'.C (Γ.ρ id)) : ∀ {ds ds' : List D} {vs : List Value}, R Γ w none ds vs → ds.mapM (frzVal base σ) = some ds' →
    R Γ' w none ds' vs ∧ ds'.all D.pure = true
  | [], ds', vs, h, hf => by
    simp only [List.mapM_nil] at hf
    injection hf with hf; subst hf
    rw [h.nil_inv]
    exact ⟨.nil _, rfl⟩
  | d :: ds, ds', vs, h, hf => by
    obtain ⟨v, vs', rfl, h1, h2⟩ := h.cons_inv
    obtain ⟨y, ys, e1, e2, rfl⟩ := mapM_cons_inv hf
    obtain ⟨k1, k2⟩ := frzVal_ok hs ha h1 e1 hC
    obtain ⟨l1, l2⟩ := frzVals_ok hs ha hC h2 e2
    exact ⟨R.cons k1 l1, by rw [List.all_cons, k2, l2]; rfl⟩
/-- Data, wherever its constant blocks are known. -/
def DataR (C : Nat → Prop) (w : World) (d : D) (v : Value) : Prop := ∀ Γ : Ctx, (∀ b, C b → Γ.C b) → R1 Γ w d v
theorem pure_free {d : D} (h : d.pure = true) : d.free = true := by cases d <;> first | (exact h) | (cases h)
theorem frz_ok (hs : SR Γ σ w) (ha : Agree Γ Γ') {base : Nat} {d d' : D} {v : Value} (h : R1 Γ w d v) (hf : frz base σ d = some d')
    (hC : ∀ id st e xs, st ≠ .shut → σ.obj id = some (.row st e xs) → Γ'.C (Γ.ρ id)) : DataR Γ'.C w d' v := by
  have one : ∀ {d d' : D} {v : Value}, R1 Γ w d v → frzVal base σ d = some d' → DataR Γ'.C w d' v := fun h hf Γ2 h2 => by
    obtain ⟨k1, k2⟩ := frzVal_ok hs ha h hf hC
    exact k1.free h2 (fun _ _ => rfl) (by simp [freeM, pure_free k2])
  cases d with
  | tup ds =>
    simp only [frz] at hf
    obtain ⟨ds', hds, rfl⟩ := Option.map_eq_some_iff.1 hf
    obtain ⟨us, rfl, hr⟩ := R1.tup.1 h
    intro Γ2 h2
    obtain ⟨k1, k2⟩ := frzVals_ok hs ha hC hr hds
    refine R1.tup.2 ⟨us, rfl, k1.free h2 (fun _ _ => rfl) ?_⟩
    rw [List.all_eq_true] at k2 ⊢
    exact fun d hd => pure_free (k2 d hd)
  | _ => exact one h hf
theorem flatLeaf_free {d : D} {v : Value} (hf : d.flatLeaf = true) (h : R1 Γ w d v) : R1 Γ' w' d v := by
  cases d <;> first | (cases hf; done) | skip
  case bool => exact R1.bool.2 (R1.bool.1 h)
  case int => exact R1.int.2 (R1.int.1 h)
  case str => exact R1.str.2 (R1.str.1 h)
  case nilp => exact R1.nilp.2 (R1.nilp.1 h)
  case nilfn => exact R1.nilfn.2 (R1.nilfn.1 h)
  case nilmp => exact (R1.atom_iff rfl).2 (show atom Γ' .nilmp v from (show atom Γ .nilmp v from (R1.atom_iff rfl).1 h))
theorem flatLeafs_free : ∀ {ds : List D} {vs : List Value}, ds.all D.flatLeaf = true → R Γ w none ds vs → R Γ' w' none ds vs
  | [], vs, _, h => by rw [h.nil_inv]; exact .nil _
  | d :: ds, vs, hf, h => by
    obtain ⟨v, vs', rfl, h1, h2⟩ := h.cons_inv
    simp only [List.all_cons, Bool.and_eq_true] at hf
    exact R.cons (flatLeaf_free hf.1 h1) (flatLeafs_free hf.2 h2)
def D.flatV : D → Bool
  | .agg es => es.all D.flatLeaf
  | d => d.flatLeaf
theorem flatV_free {d : D} {v : Value} (hf : d.flatV = true) (h : R1 Γ w d v) : R1 Γ' w' d v := by
  cases d with
  | agg es =>
    obtain ⟨us, rfl, hr, hl⟩ := R1.agg.1 h
    exact R1.agg.2 ⟨us, rfl, flatLeafs_free hf hr, hl⟩
  | _ => exact flatLeaf_free hf h
theorem flatVs_free : ∀ {ds : List D} {vs : List Value}, ds.all D.flatV = true → R Γ w none ds vs → R Γ' w' none ds vs
  | [], vs, _, h => by rw [h.nil_inv]; exact .nil _
  | d :: ds, vs, hf, h => by
    obtain ⟨v, vs', rfl, h1, h2⟩ := h.cons_inv
    simp only [List.all_cons, Bool.and_eq_true] at hf
    exact R.cons (flatV_free hf.1 h1) (flatVs_free hf.2 h2)
theorem flat_free {d : D} {v : Value} (hf : d.flat = true) (h : R1 Γ w d v) : R1 Γ' w' d v := by
  cases d with
  | tup ds =>
    obtain ⟨us, rfl, hr⟩ := R1.tup.1 h
    refine R1.tup.2 ⟨us, rfl, flatVs_free ?_ hr⟩
    simp only [D.flat] at hf
    rw [List.all_eq_true] at hf ⊢
    intro d hd
    have := hf d hd
    cases d <;> exact this
  | agg es => exact flatV_free hf h
  | _ => exact flatLeaf_free hf h

/-! ### the caller's store -/
theorem shut_obj (σ : Store) (lent : List Nat) (id : Nat) : (σ.shut lent).obj id = if lent.contains id then none else (σ.obj id).map shutOb := by
  unfold Store.shut Store.obj
  rw [List.getElem?_mapIdx]
  cases h : σ[id]? with
  | none => simp
  | some o => simp only [Option.map_some, Option.bind_some]
theorem shut_row {o : Ob} {st : St} {e : Nat} {xs : List D} (h : shutOb o = .row st e xs) : st ≠ .own ∧ ∃ st', o = .row st' e xs ∧ (st = .cst → st' = .cst) := by
  cases o with
  | row st' e' xs' =>
    cases st' <;> (simp only [shutOb] at h; injection h with h1 h2 h3; subst h1 h2 h3; exact ⟨by simp, _, rfl, by simp⟩)
  | map st' kvs => cases st' <;> simp [shutOb] at h
theorem SR.shut (hs : SR Γ σ w) {lent : List Nat} (hl : ∀ id ∈ lent, Rows1 σ id) {C : Nat → Prop} (hC : ∀ b, C b ↔ Γ.C b ∨ ∃ id ∈ lent, Γ.ρ id = b) : SR { Γ with C := C } (σ.shut lent) w ∧ ∀ b, ¬ Own { Γ with C := C } (σ.shut lent) b := by
  have hag : Agree Γ { Γ with C := C } := ⟨fun b hb => (hC b).2 (.inl hb), fun _ h => h, fun _ _ => rfl, fun _ _ => rfl, fun _ _ => rfl⟩
  have hob : ∀ {id : Nat} {o : Ob}, (σ.shut lent).obj id = some o → ∃ o', σ.obj id = some o' ∧ shutOb o' = o := by
    intro id o h
    rw [shut_obj] at h
    split at h
    · cases h
    · exact Option.map_eq_some_iff.1 h
  have hnown : ∀ b, ¬ Own { Γ with C := C } (σ.shut lent) b := by
    rintro b ⟨id, e, xs, h, _⟩
    obtain ⟨o', ho, he⟩ := hob h
    exact (shut_row he).1 rfl
  refine ⟨⟨fun id st esz xs h => ?_, fun id st kvs h => ?_, fun id id' o o' h h' => ?_, fun id o h => ?_, fun b hb => ?_, fun id h => ?_⟩, hnown⟩
  · obtain ⟨o', ho, he⟩ := hob h
    obtain ⟨hne, st', rfl, hcst⟩ := shut_row he
    obtain ⟨⟨h1, h2, c, e, us, rest, h3, h4, h5, h6⟩, k1, k2⟩ := hs.row _ _ _ _ ho
    exact ⟨⟨h1, h2, c, e, us, rest, h3, h4, h5, h6.mono hag fun _ _ => rfl⟩, fun h => absurd h hne, fun h => (hC _).2 (.inl (k2 (hcst h)))⟩
  · obtain ⟨o', ho, he⟩ := hob h
    cases o' with
    | row st' e xs => cases st' <;> simp [shutOb] at he
    | map st' kvs' => exact hs.nomap _ _ _ ho
  · obtain ⟨p, hp, _⟩ := hob h
    obtain ⟨q, hq, _⟩ := hob h'
    exact hs.inj _ _ _ _ hp hq
  · obtain ⟨p, hp, _⟩ := hob h
    exact hs.live _ _ hp
  · rcases (hC b).1 hb with hb | ⟨id, hid, rfl⟩
    · exact hs.old b hb
    · obtain ⟨st, e, xs, ho⟩ := hl id hid
      obtain ⟨⟨_, _, c, _, _, _, h3, _⟩, _⟩ := hs.row _ _ _ _ ho
      exact (Array.getElem?_eq_some_iff.1 h3).1
  · have := hs.below id h
    unfold Store.shut
    simpa using this
theorem sealed_obj : ∀ (lent : List Nat) (σ : Store) (id : Nat), (σ.sealed lent).obj id = if id ∈ lent then (σ.obj id).map sealOb else σ.obj id
  | [], σ, id => by simp [Store.sealed]
  | i :: lent, σ, id => by
    have hidem : ∀ o, sealOb (sealOb o) = sealOb o := by
      intro o
      cases o with
      | row st e xs => cases st <;> rfl
      | map => rfl
    unfold Store.sealed
    rw [List.foldl_cons]
    cases ho : σ.obj i with
    | none =>
      have := sealed_obj lent σ id
      unfold Store.sealed at this
      simp only [this, List.mem_cons]
      by_cases hi : id = i
      · subst hi; simp [ho]
      · simp [hi]
    | some o =>
      have := sealed_obj lent (σ.put i (some (sealOb o))) id
      unfold Store.sealed at this
      simp only [this, List.mem_cons]
      by_cases hi : id = i
      · subst hi
        rw [obj_put_eq ho, ho]
        simp [hidem]
      · rw [obj_put_ne hi]
        simp [hi]
theorem sealed_length (lent : List Nat) : ∀ σ : Store, (σ.sealed lent).length = σ.length := by
  induction lent with
  | nil => intro σ; rfl
  | cons i lent ih =>
    intro σ
    unfold Store.sealed
    rw [List.foldl_cons]
    cases ho : σ.obj i with
    | none => exact ih σ
    | some o => exact (ih _).trans (length_put ..)
end
end Go.Proofs.Ytfclelafcdcilaa.Dv
/- The evaluator is sound for the machine. -/
set_option linter.unusedVariables false
set_option linter.unusedSimpArgs false
namespace Go.Proofs.Ytfclelafcdcilaa.Dv
open Go

section
variable {P : Program} {M : Modes} {N : Nat} {Γ Γ' : Ctx} {w w' : World} {σ σ' : Store}

/-- What a call that writes nothing old has come to. -/
structure Behind (C0 : Nat → Prop) (w : World) (C' : Nat → Prop) (w' : World) : Prop where
  cin : ∀ b, C' b → (C0 b ∨ w.heap.size ≤ b) ∧ b < w'.heap.size
  cold : ∀ b, C0 b → C' b
  kept : ∀ b, b < w.heap.size → w'.heap[b]? = w.heap[b]?
  os : w'.os = w.os
  tape : w'.tape = w.tape
  output : w'.output = w.output
  size : w.heap.size ≤ w'.heap.size
  drawn : w.drawn ≤ w'.drawn
theorem pure_call {run : CallF} (hrun : CallOk P run) {f : FuncId} {args : List D} {r r' : D} {τ : Store} {Γ0 : Ctx} {σ0 : Store} {base : Nat} {vargs : Array Value} (hs0 : SR Γ0 σ0 w) (hno : ∀ b, ¬ Own Γ0 σ0 b) (hargs : R Γ0 w none args vargs.toList)
    (hr : run f args σ0 = some (r, τ)) (hf : frz base τ r = some r') :
    Does P f vargs w fun x w' => ∃ v C', x = .returned v ∧ DataR C' w' r' v ∧ Behind Γ0.C w C' w' := by
  refine (hrun _ _ _ _ _ Γ0 w vargs hr hs0 hargs).mono fun x w' hp => ?_
  obtain ⟨v, Γ', rfl, h1, h2, h3⟩ := hp
  have htr := h3.tr
  refine ⟨v, fun b => Γ'.C b ∨ (w.heap.size ≤ b ∧ b < w'.heap.size), rfl, ?_, ⟨fun b hb => ?_, fun b hb => .inl (htr.agree.C b hb), fun b hb => htr.kept b hb (hno b), htr.os, htr.tape, htr.output, htr.size, htr.drawn⟩⟩
  · refine frz_ok (Γ' := { Γ' with C := fun b => Γ'.C b ∨ (w.heap.size ≤ b ∧ b < w'.heap.size) }) h2 ⟨fun b hb => .inl hb, fun _ h => h, fun _ _ => rfl, fun _ _ => rfl, fun _ _ => rfl⟩ h1 hf ?_
    intro id st e xs hst ho
    obtain ⟨⟨_, _, c, _, _, _, hh, _⟩, _, hcst⟩ := h2.row _ _ _ _ ho
    have hlt := (Array.getElem?_eq_some_iff.1 hh).1
    cases st with
    | own =>
      rcases htr.own _ ⟨id, e, xs, ho, rfl⟩ with h | h
      · exact absurd h (hno _)
      · exact .inr ⟨h, hlt⟩
    | cst => exact .inl (hcst rfl)
    | shut => exact absurd rfl hst
  · rcases hb with hb | hb
    · refine ⟨?_, h2.old b hb⟩
      rcases htr.cnew b hb with h | h | h
      · exact .inl h
      · exact .inr h
      · exact absurd h (hno _)
    · exact ⟨.inr hb.1, hb.2⟩
theorem Behind.sameC {C0 C' : Nat → Prop} (h : Behind C0 w C' w') (hs : SR Γ σ w) : SameC Γ w w' := fun b hb => h.kept b (hs.old b hb)
theorem row_keep {C0 C' : Nat → Prop} (h : Behind C0 w C' w') (hs : SR Γ σ w) (ha : Agree Γ Γ') {id : Nat} {st : St} {esz : Nat} {xs : List D} (ho : σ.obj id = some (.row st esz xs)) : RowR Γ' w' id esz xs ∧ Γ.ρ id < w.heap.size ∧ Γ'.ρ id = Γ.ρ id := by
  obtain ⟨⟨h1, h2, c, e, us, rest, h3, h4, h5, h6⟩, _⟩ := hs.row _ _ _ _ ho
  have hlt := (Array.getElem?_eq_some_iff.1 h3).1
  have hA := hs.live _ _ ho
  refine ⟨⟨by rw [ha.ez id hA]; exact h1, h2, c, e, us, rest, ?_, by rw [ha.bs id hA]; exact h4, h5, h6.mono ha (h.sameC hs)⟩, hlt, ha.ρ id hA⟩
  rw [ha.ρ id hA, h.kept _ hlt]; exact h3
theorem back_flat {C0 C' : Nat → Prop} {r : D} {v : Value} (hs : SR Γ σ w) (hb : Behind C0 w C' w') (hd : DataR C' w' r v) (hf : r.flat = true) : Post Γ σ w r σ (.returned v) w' := by
  refine ⟨v, Γ, rfl, ?_, ?_, ⟨⟨.refl _, fun b hb => .inl hb, fun b hb => .inl hb, fun b h _ => hb.kept b h, hb.os, hb.tape, hb.output, hb.size, hb.drawn⟩, Nat.le_refl _, fun _ h => .inl h⟩⟩
  · exact flat_free hf (hd { Γ with C := C' } fun _ h => h)
  · exact ⟨fun id st esz xs ho => ⟨(row_keep hb hs (.refl _) ho).1, (hs.row _ _ _ _ ho).2⟩, hs.nomap, hs.inj, hs.live, fun b h => Nat.lt_of_lt_of_le (hs.old b h) hb.size, hs.below⟩
theorem seal_row {o : Ob} {st : St} {e : Nat} {xs : List D} (h : sealOb o = .row st e xs) : ∃ st', o = .row st' e xs ∧ st ≠ .own ∧ (st = .cst → st' = .own ∨ st' = .cst) := by
  cases o with
  | row st' e' xs' => cases st' <;> (simp only [sealOb] at h; injection h with h1 h2 h3; subst h1 h2 h3; exact ⟨_, rfl, by simp, by simp⟩)
  | map => simp [sealOb] at h
theorem back_sealed {lent : List Nat} {C0 C' : Nat → Prop} {r : D} {v : Value} (hs : SR Γ σ w) (hl : ∀ id ∈ lent, Rows1 σ id) (hC : ∀ b, C0 b ↔ Γ.C b ∨ ∃ id ∈ lent, Γ.ρ id = b) (hb : Behind C0 w C' w') (hd : DataR C' w' r v)
    (hmay : ∀ id ∈ lent, σ.mayseal id = true) : Post Γ σ w r (σ.sealed lent) (.returned v) w' := by
  have hag : Agree Γ { Γ with C := C' } := ⟨fun b h => hb.cold b ((hC b).2 (.inl h)), fun _ h => h, fun _ _ => rfl, fun _ _ => rfl, fun _ _ => rfl⟩
  have hob : ∀ {id : Nat} {o : Ob}, (σ.sealed lent).obj id = some o → ∃ o', σ.obj id = some o' ∧ ((id ∈ lent ∧ sealOb o' = o) ∨ (id ∉ lent ∧ o' = o)) := by
    intro id o h
    rw [sealed_obj] at h
    split at h
    · rename_i hm
      obtain ⟨o', ho, he⟩ := Option.map_eq_some_iff.1 h
      exact ⟨o', ho, .inl ⟨hm, he⟩⟩
    · rename_i hm
      exact ⟨o, h, .inr ⟨hm, rfl⟩⟩
  have hown : ∀ {id : Nat} {e : Nat} {xs : List D}, (σ.sealed lent).obj id = some (.row .own e xs) → σ.obj id = some (.row .own e xs) ∧ id ∉ lent := by
    intro id e xs h
    obtain ⟨o', ho, h | h⟩ := hob h
    · obtain ⟨st', _, h2, _⟩ := seal_row h.2
      exact absurd rfl h2
    · rw [h.2] at ho; exact ⟨ho, h.1⟩
  refine ⟨v, { Γ with C := C' }, rfl, hd _ fun _ h => h, ⟨fun id st esz xs h => ?_, fun id st kvs h => ?_, fun id id' o o' h h' => ?_, fun id o h => ?_, fun b h => (hb.cin b h).2, fun id h => ?_⟩, ⟨⟨hag, fun b h => ?_, fun b h => .inl ?_, fun b h _ => hb.kept b h, hb.os, hb.tape, hb.output, hb.size, hb.drawn⟩, ?_, fun _ h => .inl h⟩⟩
  · obtain ⟨o', ho, hcase⟩ := hob h
    have hrow : ∃ st', o' = .row st' esz xs := by
      rcases hcase with hc | hc
      · obtain ⟨st', h1, _⟩ := seal_row hc.2; exact ⟨st', h1⟩
      · exact ⟨st, hc.2⟩
    obtain ⟨st', rfl⟩ := hrow
    obtain ⟨k1, k2, k3⟩ := row_keep hb hs hag ho
    refine ⟨k1, ?_, ?_⟩
    · rintro rfl hcc
      obtain ⟨ho2, hnm⟩ := hown h
      rcases (hb.cin _ hcc).1 with h0 | h0
      · rcases (hC _).1 h0 with h1 | ⟨id', hid', he⟩
        · exact (hs.row _ _ _ _ ho2).2.1 rfl h1
        · obtain ⟨st2, e2, xs2, ho3⟩ := hl id' hid'
          have := hs.inj _ _ _ _ ho3 ho2 he
          exact hnm (this ▸ hid')
      · rw [k3] at h0; omega
    · rintro rfl
      refine hb.cold _ ((hC _).2 ?_)
      rcases hcase with hc | hc
      · exact .inr ⟨id, hc.1, rfl⟩
      · have := hc.2
        injection this with h1 _ _
        exact .inl ((hs.row _ _ _ _ ho).2.2 h1)
  · obtain ⟨o', ho, hcase⟩ := hob h
    rcases hcase with hc | hc
    · cases o' with
      | row st' e xs => cases st' <;> simp [sealOb] at hc
      | map st' kvs' => exact hs.nomap _ _ _ ho
    · rw [hc.2] at ho; exact hs.nomap _ _ _ ho
  · obtain ⟨p, hp, _⟩ := hob h
    obtain ⟨q, hq, _⟩ := hob h'
    exact hs.inj _ _ _ _ hp hq
  · obtain ⟨p, hp, _⟩ := hob h
    exact hs.live _ _ hp
  · rw [sealed_length]; exact hs.below id h
  · rcases (hb.cin b h).1 with h0 | h0
    · rcases (hC b).1 h0 with h1 | ⟨id, hid, rfl⟩
      · exact .inl h1
      · have hm := hmay id hid
        unfold Store.mayseal at hm
        split at hm
        · rename_i ho; exact .inr (.inr ⟨_, _, _, ho, rfl⟩)
        · rename_i ho; exact .inl ((hs.row _ _ _ _ ho).2.2 rfl)
        · cases hm
    · exact .inr (.inl h0)
  · obtain ⟨id, e, xs, ho, he⟩ := h
    exact ⟨id, e, xs, (hown ho).1, he⟩
  · rw [sealed_length]; exact Nat.le_refl _
theorem back_ok {lent : List Nat} {C0 C' : Nat → Prop} {r : D} {v : Value} (hs : SR Γ σ w) (hl : ∀ id ∈ lent, Rows1 σ id) (hC : ∀ b, C0 b ↔ Γ.C b ∨ ∃ id ∈ lent, Γ.ρ id = b) (hb : Behind C0 w C' w') (hd : DataR C' w' r v)
    (h : σ.behind lent r = some σ') : Post Γ σ w r σ' (.returned v) w' := by
  unfold Store.behind at h
  split at h
  · rename_i hc
    injection h with h
    subst h
    rw [Bool.or_eq_true] at hc
    rcases hc with hc | hc
    · rw [List.isEmpty_iff] at hc
      subst hc
      exact back_sealed hs hl hC hb hd (by simp)
    · exact back_flat hs hb hd hc
  · split at h
    · rename_i hm
      injection h with h
      subst h
      exact back_sealed hs hl hC hb hd (by simpa using hm)
    · cases h
/-- A value as it was before, and as it is now: with the places of before alone. -/
def Narrow (Γ Γ' : Ctx) : Ctx := { Γ' with A := Γ.A }
theorem R.narrow {w0 : World} {m : Option Nat} {ds : List D} {vs : List Value} (h : R Γ' w' m ds vs) : ∀ {vs0 : List Value}, R Γ w0 m ds vs0 → R (Narrow Γ Γ') w' m ds vs := by
  induction h with
  | nil m => intro _ _; exact .nil m
  | @atom d v ds vs h t ih =>
    intro vs0 h0
    obtain ⟨v0, vs0', rfl, k1, k2⟩ := h0.cons_inv
    refine .atom ?_ (ih k2)
    cases d with
    | mp id => exact ⟨((R1.atom_iff rfl).1 k1).1, h.2⟩
    | ptr id i j => exact ⟨((R1.atom_iff rfl).1 k1).1, h.2⟩
    | ms id off len cap ex => exact ⟨((R1.atom_iff rfl).1 k1).1, h.2⟩
    | nsl b => cases b <;> exact h
    | _ => exact h
  | agg h hl t ih1 ih2 =>
    intro vs0 h0
    obtain ⟨v0, vs0', rfl, k1, k2⟩ := h0.cons_inv
    obtain ⟨us, _, k3, _⟩ := R1.agg.1 k1
    exact .agg (ih1 k3) hl (ih2 k2)
  | tup h t ih1 ih2 =>
    intro vs0 h0
    obtain ⟨v0, vs0', rfl, k1, k2⟩ := h0.cons_inv
    obtain ⟨us, _, k3⟩ := R1.tup.1 k1
    exact .tup (ih1 k3) (ih2 k2)
  | fn h1 h2 t ih1 ih2 ih3 =>
    intro vs0 h0
    obtain ⟨v0, vs0', rfl, k1, k2⟩ := h0.cons_inv
    obtain ⟨us, ws, _, k3, k4⟩ := R1.fn.1 k1
    exact .fn (ih1 k3) (ih2 k4) (ih3 k2)
  | sl hp hn hc hf h hz ha t ih1 ih2 =>
    intro vs0 h0
    obtain ⟨v0, vs0', rfl, k1, k2⟩ := h0.cons_inv
    refine .sl hp hn hc hf ?_ hz ha (ih2 k2)
    cases k1 with
    | atom h _ => exact h.elim
    | sl _ _ _ _ h' hz' _ _ => exact R.free (Γ := Γ') (Γ' := Narrow Γ Γ') (w := w') (w' := w') (fun b hb => hb) (fun _ _ => rfl) h hp
  | cpt hp he h hC ha t ih1 ih2 =>
    intro vs0 h0
    obtain ⟨v0, vs0', rfl, k1, k2⟩ := h0.cons_inv
    refine .cpt hp he ?_ hC ha (ih2 k2)
    cases k1 with
    | atom h _ => exact h.elim
    | cpt _ _ h' _ _ _ => exact ih1 h'
  | elem hx h hl t ih1 ih2 =>
    intro vs0 h0
    cases h0 with
    | elem _ h' _ t' => exact .elem hx (ih1 h') hl (ih2 t')
def PrimOk (P : Program) (M : Modes) : Prop := (∀ f, M.ro f = true → M.chk = true) ∧
  ∀ (f : FuncId) (p : CallF), M.prim f = some p → ∀ (args : List D) (σ : Store) (r : D) (σ' : Store) (Γ : Ctx) (w : World) (vargs : Array Value), p f args σ = some (r, σ') → SR Γ σ w → R Γ w none args vargs.toList →
    Does P f vargs w (Post Γ σ w r σ')
mutual
theorem D.same_eq : ∀ {a b : D}, D.same a b = true → a = b
  | .undef, b, h => by cases b <;> first | rfl | (simp [D.same] at h)
  | .any, b, h => by cases b <;> first | rfl | (simp [D.same] at h)
  | .nilp, b, h => by cases b <;> first | rfl | (simp [D.same] at h)
  | .nilfn, b, h => by cases b <;> first | rfl | (simp [D.same] at h)
  | .nilmp, b, h => by cases b <;> first | rfl | (simp [D.same] at h)
  | .junk, b, h => by cases b <;> first | rfl | (simp [D.same] at h)
  | .bool x, b, h => by cases b <;> first | (simp [D.same] at h; done) | (simp [D.same] at h; rw [h])
  | .int k n, b, h => by cases b <;> first | (simp [D.same] at h; done) | (simp [D.same] at h; rw [h.1, h.2])
  | .str s, b, h => by
    cases b with
    | str t =>
      have h : s.data.toList = t.data.toList := of_decide_eq_true (by simpa only [D.same] using h)
      have : s.data = t.data := Array.toList_inj.1 h
      rw [show s = t from ByteArray.ext this]
    | _ => simp [D.same] at h
  | .agg x, b, h => by
    cases b with
    | agg y => rw [sameL_eq (a := x) (b := y) (by simpa only [D.same] using h)]
    | _ => simp [D.same] at h
  | .sl f x, b, h => by
    cases b with
    | sl g y =>
      simp only [D.same, Bool.and_eq_true, beq_iff_eq] at h
      rw [h.1, sameL_eq (a := x) (b := y) h.2]
    | _ => simp [D.same] at h
  | .ms i j k l e, b, h => by
    cases b with
    | ms => simp only [D.same, Bool.and_eq_true, beq_iff_eq, decide_eq_true_eq] at h; rw [h.1.1.1.1, h.1.1.1.2, h.1.1.2, h.1.2, h.2]
    | _ => simp [D.same] at h
  | .ptr i j k, b, h => by
    cases b with
    | ptr => simp only [D.same, Bool.and_eq_true, decide_eq_true_eq] at h; rw [h.1.1, h.1.2, h.2]
    | _ => simp [D.same] at h
  | .nsl x, b, h => by cases b <;> first | (simp [D.same] at h; done) | (simp [D.same] at h; rw [h])
  | .tup x, b, h => by cases b <;> (simp [D.same] at h)
  | .cpt x j, b, h => by cases b <;> (simp [D.same] at h)
  | .fn f x y, b, h => by cases b <;> (simp [D.same] at h)
  | .mp i, b, h => by cases b <;> (simp [D.same] at h)
theorem sameL_eq : ∀ {a b : List D}, sameL a b = true → a = b
  | [], [], _ => rfl
  | [], y :: s, h => by simp [sameL] at h
  | x :: r, [], h => by simp [sameL] at h
  | x :: r, y :: s, h => by
    simp only [sameL, Bool.and_eq_true] at h
    rw [D.same_eq h.1, sameL_eq h.2]
end
theorem sameO_eq {a b : Option Ob} (h : sameO a b = true) : a = b := by
  unfold sameO at h
  split at h
  · rfl
  · simp only [Bool.and_eq_true, decide_eq_true_eq] at h
    rw [h.1.1, h.1.2, sameL_eq h.2]
  · cases h
theorem sameS_obj : ∀ {σ σ' : Store} {id : Nat} {o : Ob}, sameS σ σ' = true → σ.obj id = some o → σ'.obj id = some o
  | [], _, id, o, _, h => by simp [Store.obj] at h
  | a :: r, [], _, _, h, _ => by simp [sameS] at h
  | a :: r, b :: s, 0, o, h, ho => by
    simp only [sameS, Bool.and_eq_true] at h
    rw [← sameO_eq h.1]
    exact ho
  | a :: r, b :: s, id + 1, o, h, ho => by
    simp only [sameS, Bool.and_eq_true] at h
    exact sameS_obj (id := id) h.2 ho
theorem ro_post {r : D} {v : Value} {σ1 : Store} (hs : SR Γ σ w) (hf : r.flat = true) (hss : sameS σ σ1 = true) (h1 : R1 Γ' w' r v) (h2 : SR Γ' σ1 w') (h3 : Reach Γ σ w Γ' σ1 w') : Post Γ σ w r σ (.returned v) w' := by
  have htr := h3.tr
  have hag : Agree Γ (Narrow Γ Γ') := ⟨htr.agree.C, fun _ h => h, htr.agree.ρ, htr.agree.ez, htr.agree.bs⟩
  refine ⟨v, Narrow Γ Γ', rfl, flat_free hf h1, ⟨fun id st esz xs ho => ?_, hs.nomap, fun id id' o o' ho ho' he => h2.inj _ _ _ _ (sameS_obj hss ho) (sameS_obj hss ho') he, hs.live, h2.old, hs.below⟩, ⟨⟨hag, htr.cnew, fun b hb => ?_, htr.kept, htr.os, htr.tape, htr.output, htr.size, htr.drawn⟩, Nat.le_refl _, fun _ h => .inl h⟩⟩
  · obtain ⟨⟨k1, k2, c, e, us, rest, k3, k4, k5, k6⟩, k7, k8⟩ := h2.row _ _ _ _ (sameS_obj hss ho)
    obtain ⟨⟨_, _, c0, e0, us0, rest0, _, _, _, j6⟩, _, _⟩ := hs.row _ _ _ _ ho
    exact ⟨⟨k1, k2, c, e, us, rest, k3, k4, k5, ⟨k6.r.narrow j6.r, k6.one⟩⟩, k7, k8⟩
  · obtain ⟨id, e, xs, ho, he⟩ := hb
    exact .inl ⟨id, e, xs, ho, by rw [← he]; exact (htr.agree.ρ id (hs.live _ _ ho)).symm⟩
theorem callD_ok {run : CallF} (hrun : CallOk P run) (hprim : PrimOk P M) : CallOk P (callD M run) := by
  have hr0 := hprim.1
  replace hprim := hprim.2
  intro f args σ r σ' Γ w vargs h hs hargs
  unfold callD at h
  split at h
  · rename_i p hp
    exact hprim f p hp _ _ _ _ Γ w vargs h hs hargs
  · split at h
    · split at h
      · rename_i hro
        obtain ⟨q, hq, he⟩ := Option.bind_eq_some_iff.1 h
        obtain ⟨e1, e2, e3⟩ := roEnd_some he
        subst e1 e2
        obtain ⟨hfl, hss⟩ := e3 (hr0 f hro)
        refine (hrun f args σ' q.1 q.2 Γ w vargs hq hs hargs).mono fun x w' hp => ?_
        obtain ⟨v, Γ', rfl, h1, h2, h3⟩ := hp
        exact ro_post hs hfl hss h1 h2 h3
      · exact hrun _ _ _ _ _ Γ w vargs h hs hargs
    · simp only at h
      have hl := lends_rows (σ := σ) (ds := args)
      have hag : Agree Γ { Γ with C := fun b => Γ.C b ∨ ∃ id ∈ args.flatMap fun d => (lend σ d).2, Γ.ρ id = b } := ⟨fun b hb => .inl hb, fun _ h => h, fun _ _ => rfl, fun _ _ => rfl, fun _ _ => rfl⟩
      have hargs' := lends_ok hs hag hargs fun id hid => .inr ⟨id, hid, rfl⟩
      obtain ⟨hs1, hno1⟩ := hs.shut hl (C := fun b => Γ.C b ∨ ∃ id ∈ args.flatMap fun d => (lend σ d).2, Γ.ρ id = b) fun b => Iff.rfl
      split at h
      · rename_i hfree
        split at h
        · rename_i r0 τ hr
          split at h
          · rename_i r' hf
            obtain ⟨s, hb, he⟩ := Option.map_eq_some_iff.1 h
            injection he with he1 he2
            subst he1 he2
            have k2 := pure_call (Γ0 := { Γ with C := fun b => Γ.C b ∨ ∃ id ∈ args.flatMap fun d => (lend σ d).2, Γ.ρ id = b, A := fun _ => False }) (σ0 := []) (w := w) hrun
              ⟨fun id st esz xs h => by simp [Store.obj] at h, fun id st kvs h => by simp [Store.obj] at h, fun id id' o o' h => by simp [Store.obj] at h, fun id o h => by simp [Store.obj] at h, hs1.old, fun id h => h.elim⟩
              (by rintro b ⟨id, e, xs, h, _⟩; simp [Store.obj] at h) (hargs'.free (Γ' := { Γ with C := fun b => Γ.C b ∨ ∃ id ∈ args.flatMap fun d => (lend σ d).2, Γ.ρ id = b, A := fun _ => False }) (fun b hb => by exact hb) (fun _ _ => rfl) hfree) hr hf
            refine k2.mono fun x w' hp => ?_
            obtain ⟨v, C', rfl, hd, hbe⟩ := hp
            exact back_ok hs hl (fun b => Iff.rfl) hbe hd hb
          · cases h
        · cases h
      · cases h

/-! ### the evaluator is sound -/
def GoodM (P : Program) (M : Modes) : Prop := ∀ f fn, M.good f = true → P.funcs[f]? = some fn → goodFn M fn = true
theorem entry_slots {args : List D} {vargs : Array Value} (h : R Γ w none args vargs.toList) (n : Nat) : Slots Γ w (entry args) { tmps := vargs ++ Array.replicate n Go.undef, defers := [] } := by
  intro t
  have hl : args.length = vargs.size := by simpa using h.length
  unfold entry
  rcases Nat.lt_or_ge t args.length with ht | ht
  · obtain ⟨v, hv, hr⟩ := h.get (List.getElem?_eq_getElem ht)
    have h1 : (vargs ++ Array.replicate n Go.undef).getD t Go.undef = v := by
      rw [Array.getElem?_toList] at hv
      rw [Array.getD_eq_getD_getElem?, Array.getElem?_append_left (by omega), hv]; rfl
    rw [List.getElem?_eq_getElem ht]
    simp only [Option.getD_some]
    rw [h1]; exact hr
  · have h1 : (vargs ++ Array.replicate n Go.undef).getD t Go.undef = Go.undef := by
      rw [Array.getD_eq_getD_getElem?, Array.getElem?_append_right (by omega)]
      rw [Array.getElem?_replicate]
      split <;> rfl
    rw [List.getElem?_eq_none ht]
    simp only [Option.getD_none]
    rw [h1]; exact R1.undef.2 rfl
theorem body_ok {run : CallF} {loop : LoopF} (hcall : CallOk P (callD M run)) (hloop : LoopOk P M loop) (hmix : P.follows .mixedOrders = true) {f : FuncId} {fn : Func} (hf : P.funcs[f]? = some fn) (hg : goodFn M fn = true) {args : List D} (hl : args.length = fn.params.size + fn.nfree)
    {r : D} {vargs : Array Value} (h : bodyD P (callD M run) loop fn args σ = some (r, σ')) (hs : SR Γ σ w) (hargs : R Γ w none args vargs.toList) : Does P f vargs w (Post Γ σ w r σ') := by
  unfold goodFn at hg
  simp only [Bool.and_eq_true, bne_iff_ne, ne_eq, decide_eq_true_eq] at hg
  obtain ⟨⟨hname, hnt⟩, hbody⟩ := hg
  unfold bodyD at h
  split at h
  case h_2 => cases h
  rename_i c hc
  rw [hc] at hbody
  simp only at hbody
  refine .inl ⟨⟨fn, hf, hname, by rw [hc]; rfl⟩, ?_⟩
  refine calls_of_wp hf hc ?_
  have hlen : args.length = vargs.size := by simpa using hargs.length
  have fin : ∀ {ex : Ex} {e' : Env} {s : Store}, (ex = .normal ∨ ex = .ret) → resultsD P fn.results.toList e' s = some r → s = σ' → ∀ a' w', CodeEnd fn.ntmps Γ σ w e' s [] a' w' → bodyPost P fn (Post Γ σ w r σ') (exOf ex) a' w' := by
    intro ex e' s hex hres hss a' w' hce
    subst hss
    obtain ⟨Γ', k1, k2, k3, k4, k5⟩ := hce
    obtain ⟨v, hv, hr⟩ := results_ok k2 k1 hres
    rcases hex with rfl | rfl <;> exact ⟨k5, v, hv, v, Γ', rfl, hr, k2, k3⟩
  split at h
  case h_3 => cases h
  all_goals
    rename_i hev
    obtain ⟨d, hd, he⟩ := Option.map_eq_some_iff.1 h
    injection he with he1 he2
    subst he1
    exact code_sim hcall hloop hmix c hbody hev (entry_slots hargs _) hs (by simp; omega) (fin (by simp) hd he2)
theorem sound (hgood : GoodM P M) (hprim : PrimOk P M) (hmix : P.follows .mixedOrders = true) : ∀ n, CallOk P (runN P M n).1 ∧ LoopOk P M (runN P M n).2 := by
  intro n
  induction n using Nat.strongRecOn with
  | _ n ih =>
    constructor
    · intro f args σ r σ' Γ w vargs h hs hargs
      cases n with
      | zero => simp [runN] at h
      | succ n =>
        rw [runN] at h
        simp only at h
        split at h
        case isFalse => cases h
        rename_i hg
        split at h
        case h_2 => cases h
        rename_i fn hf
        split at h
        case isFalse => cases h
        rename_i hl
        obtain ⟨i1, i2⟩ := ih n (Nat.lt_succ_self n)
        exact body_ok (callD_ok i1 hprim) i2 hmix hf (hgood f fn hg hf) hl h hs hargs
    · intro c N e σ ex e' σ' Γ w a Q hgc h hsl hs hN hQ
      refine wp_loop_ghost (fun k a1 w1 => k ≤ n ∧ ∃ e1 σ1 Γ1, (runN P M k).2 c e1 σ1 = some (ex, e', σ') ∧ Slots Γ1 w1 e1 a1 ∧ SR Γ1 σ1 w1 ∧ a1.tmps.size = N ∧ a1.defers = a.defers ∧ Reach Γ σ w Γ1 σ1 w1) n ⟨Nat.le_refl _, e, σ, Γ, h, hsl, hs, hN, rfl, .refl _ _ _⟩ ?_
      rintro k a1 w1 ⟨hk, e1, σ1, Γ1, k1, k2, k3, k4, k5, k6⟩
      cases k with
      | zero => simp [runN] at k1
      | succ k =>
        rw [runN] at k1
        simp only [roundD] at k1
        obtain ⟨i1, i2⟩ := ih k (by omega)
        cases hev : evCode P (callD M (runN P M k).1) (runN P M k).2 c e1 σ1 with
        | none => rw [hev] at k1; cases k1
        | some q =>
          obtain ⟨ex2, e2, σ2⟩ := q
          rw [hev] at k1
          refine code_sim (callD_ok i1 hprim) i2 hmix c hgc hev k2 k3 k4 ?_
          intro a2 w2 hce
          obtain ⟨Γ2, l1, l2, l3, l4, l5⟩ := hce
          cases ex2 with
          | normal => exact ⟨k, Nat.lt_succ_self k, by omega, e2, σ2, Γ2, k1, l1, l2, l4, l5.trans k5, k6.trans l3⟩
          | exit id =>
            injection k1 with k1; injection k1 with h1 k1; injection k1 with h2 h3; subst h1 h2 h3
            exact hQ a2 w2 ⟨Γ2, l1, l2, k6.trans l3, l4, l5.trans k5⟩
          | ret =>
            injection k1 with k1; injection k1 with h1 k1; injection k1 with h2 h3; subst h1 h2 h3
            exact hQ a2 w2 ⟨Γ2, l1, l2, k6.trans l3, l4, l5.trans k5⟩
theorem run_ok (hgood : GoodM P M) (hprim : PrimOk P M) (hmix : P.follows .mixedOrders = true) : CallOk P (run P M) := by
  intro f args σ r σ' Γ w vargs h hs hargs
  obtain ⟨n, hn⟩ := run_iff.1 h
  exact (sound hgood hprim hmix n).1 _ _ _ _ _ Γ w vargs hn hs hargs
end
end Go.Proofs.Ytfclelafcdcilaa.Dv
/- From a reading of the arguments to the evaluator's data, and from its answer to the call. -/
set_option linter.unusedVariables false
set_option linter.unusedSimpArgs false
namespace Go.Proofs.Ytfclelafcdcilaa.Dv
open Go

/-- The kinds of a value's cells. -/
inductive LK where
  | bool | int (k : IntKind) | str | sl (agg : Bool) (ks : List LK)
/-- Cells of these kinds. -/
inductive Ok : List LK → List D → Prop
  | nil : Ok [] []
  | bool {b : Bool} {ks : List LK} {xs : List D} (t : Ok ks xs) : Ok (.bool :: ks) (.bool b :: xs)
  | int {k : IntKind} {n : Int} {ks : List LK} {xs : List D} (h : (Lit.int k n).wf = true) (t : Ok ks xs) : Ok (.int k :: ks) (.int k n :: xs)
  | str {s : ByteArray} {ks : List LK} {xs : List D} (h : s.size ≤ maxLen) (t : Ok ks xs) : Ok (.str :: ks) (.str s :: xs)
  | sl {full agg : Bool} {eks : List LK} {ys : List D} {ks : List LK} {xs : List D} (hl : ys.length ≤ maxLen) (h1 : ∀ y ∈ ys, y.isAgg = agg) (h2 : ∀ y ∈ ys, Ok eks y.cells) (t : Ok ks xs) : Ok (.sl agg eks :: ks) (.sl full ys :: xs)
theorem Ok.pleaf {ks : List LK} {xs : List D} (h : Ok ks xs) : xs.all D.pleaf = true := by
  induction h with
  | nil => rfl
  | bool _ ih => simpa [D.pleaf] using ih
  | int _ _ ih => simpa [D.pleaf] using ih
  | str _ _ ih => simpa [D.pleaf] using ih
  | sl _ _ _ _ _ ih => simpa [D.pleaf] using ih
theorem Ok.length {ks : List LK} {xs : List D} (h : Ok ks xs) : xs.length = ks.length := by
  induction h <;> simp_all
theorem Ok.append {ks ls : List LK} {xs ys : List D} (h : Ok ks xs) (k : Ok ls ys) : Ok (ks ++ ls) (xs ++ ys) := by
  induction h with
  | nil => exact k
  | bool _ ih => exact .bool ih
  | int h _ ih => exact .int h ih
  | str h _ ih => exact .str h ih
  | sl a b c _ _ ih => exact .sl a b c ih
def isAggT (P : Program) (t : TypeId) : Bool :=
  match P.underlying t with
  | some (.struct _) | some (.array _ _) => true
  | _ => false
def laid (P : Program) : Nat → List Field → List (List LK) → Nat → Bool
  | o, [], [], n => o == n
  | o, f :: fs, ks :: kss, n => f.offset == o && ks.length == P.cellsOf f.type && laid P (o + ks.length) fs kss n
  | _, _, _, _ => false
def kinds (P : Program) : Nat → TypeId → Option (List LK)
  | 0, _ => none
  | m + 1, t => match P.underlying t with
    | some .bool => some [.bool]
    | some (.int k) => some [.int k]
    | some .string => some [.str]
    | some (.slice e) => if 0 < P.cellsOf e then (kinds P m e).map fun ks => [.sl (isAggT P e) ks] else none
    | some (.struct fs) => (fs.toList.mapM fun f => kinds P m f.type).bind fun kss => if laid P 0 fs.toList kss (P.cellsOf t) then some kss.flatten else none
    | _ => none
/-- A value of these cells. -/
def vOf (agg : Bool) (xs : List D) : D := if agg then .agg xs else xs.headD .any
def Old (w : World) : Ctx := { C := fun b => b < w.heap.size, A := fun _ => False, ρ := id, ez := fun _ => 0, bs := fun _ => 0 }

section
variable {H : Type} {enc : TypeId × Value → H} {P : Program} {w : World} {base : Nat} {spare : Nat → Bool} {held : Bool}
theorem fields_ok {fuel m : Nat} (ih : ∀ (t : TypeId) (cs : List Value) (d : DataW H) (ps : List MemPlace), DataW.trod enc P w base spare held fuel t cs = some (d, ps) → ∀ ks, kinds P m t = some ks → ∃ xs, R (Old w) w none xs cs ∧ Ok ks xs) {cs : List Value} {n : Nat} (hn : cs.length = n) :
    ∀ (fs : List Field) (kss : List (List LK)) (o : Nat), fs.mapM (fun f => kinds P m f.type) = some kss → laid P o fs kss n = true →
      (∀ f ∈ fs, ∃ x, DataW.trod enc P w base spare held fuel f.type ((cs.drop f.offset).take (P.cellsOf f.type)) = some x) → ∃ xs, R (Old w) w none xs (cs.drop o) ∧ Ok kss.flatten xs
  | [], kss, o, h1, h2, h3 => by
    simp only [List.mapM_nil] at h1
    injection h1 with h1
    subst h1
    simp only [laid, beq_iff_eq] at h2
    exact ⟨[], by rw [List.drop_of_length_le (by omega)]; exact .nil _, .nil⟩
  | f :: fs, kss, o, h1, h2, h3 => by
    obtain ⟨ks, kss', e1, e2, rfl⟩ := mapM_cons_inv h1
    obtain ⟨⟨d, ps⟩, e3⟩ := h3 f (List.mem_cons_self ..)
    simp only [laid, Bool.and_eq_true, beq_iff_eq] at h2
    obtain ⟨⟨h4, h5⟩, h6⟩ := h2
    obtain ⟨xs, k1, k2⟩ := ih _ _ _ _ e3 _ e1
    obtain ⟨ys, l1, l2⟩ := fields_ok ih hn fs kss' _ e2 h6 fun g hg => h3 g (List.mem_cons_of_mem _ hg)
    refine ⟨xs ++ ys, ?_, by rw [List.flatten_cons]; exact k2.append l2⟩
    rw [h4, ← h5] at k1
    have : cs.drop o = (cs.drop o).take ks.length ++ cs.drop (o + ks.length) := by rw [← List.drop_drop, List.take_append_drop]
    rw [this]
    exact k1.append l1
theorem cells_some {a : Addr} {n : Nat} {cs : List Value} (h : w.cells? base a n = some cs) : cs.length = n ∧ ∀ i, i < n → w.cell? (a.add i) = cs[i]? :=
  ⟨(World.cells?_some h).2.1, (World.cells?_some h).2.2⟩
theorem add_none {b o n : Nat} : (⟨b, o, none⟩ : Addr).add n = ⟨b, o + n, none⟩ := by
  unfold Addr.add
  split
  · rename_i h; subst h; rfl
  · rfl
theorem elems_ok {fuel m : Nat} {e : TypeId} {ks : List LK} (hks : kinds P m e = some ks) (hk1 : isAggT P e = false → ks.length = 1)
    (ih : ∀ (t : TypeId) (cs : List Value) (d : DataW H) (ps : List MemPlace), DataW.trod enc P w base spare held fuel t cs = some (d, ps) → ∀ ks, kinds P m t = some ks → ∃ xs, R (Old w) w none xs cs ∧ Ok ks xs) {b o : Nat} :
    ∀ (n s : Nat), (∀ i, s ≤ i → i < s + n → ∃ r, (w.cells? base ((⟨b, o, none⟩ : Addr).add (i * P.cellsOf e)) (P.cellsOf e)).bind (DataW.trod enc P w base spare held fuel e) = some r) →
      ∃ ys us, R (Old w) w (some (P.cellsOf e)) ys us ∧ ys.length = n ∧ (∀ y ∈ ys, y.isAgg = isAggT P e) ∧ (∀ y ∈ ys, Ok ks y.cells) ∧ ∀ k u, us[k]? = some u → w.cell? ⟨b, o + s * P.cellsOf e + k, none⟩ = some u
  | 0, s, h => ⟨[], [], .nil _, rfl, by simp, by simp, by simp⟩
  | n + 1, s, h => by
    obtain ⟨⟨d, ps⟩, e1⟩ := h s (Nat.le_refl _) (by omega)
    obtain ⟨ys, us, k1, k2, k3, k4, k5⟩ := elems_ok hks hk1 ih n (s + 1) fun i h1 h2 => h i (by omega) (by omega)
    obtain ⟨cs, hc, hd⟩ := Option.bind_eq_some_iff.1 e1
    obtain ⟨xs, l1, l2⟩ := ih _ _ _ _ hd _ hks
    obtain ⟨c1, c2⟩ := cells_some hc
    have hpl := l2.pleaf
    have hcells : (vOf (isAggT P e) xs).cells = xs ∧ (vOf (isAggT P e) xs).isAgg = isAggT P e ∧ (vOf (isAggT P e) xs).elem = true := by
      unfold vOf
      cases ha : isAggT P e with
      | true =>
        simp only [if_true, D.cells, D.isAgg, D.elem, true_and]
        rw [List.all_eq_true] at hpl ⊢
        exact fun d hd => pleaf_leaf (hpl d hd)
      | false =>
        have hl : xs.length = 1 := by rw [l2.length]; exact hk1 ha
        obtain ⟨x, rfl⟩ := List.length_eq_one_iff.1 hl
        simp only [List.all_cons, List.all_nil, Bool.and_true] at hpl
        simp only [Bool.false_eq_true, if_false, List.headD_cons]
        cases x <;> first | (cases hpl; done) | exact ⟨rfl, rfl, rfl⟩
    refine ⟨vOf (isAggT P e) xs :: ys, cs ++ us, .elem hcells.2.2 (by rw [hcells.1]; exact l1) c1 k1, by simp [k2], ?_, ?_, ?_⟩
    · intro y hy
      rcases List.mem_cons.1 hy with rfl | hy
      · exact hcells.2.1
      · exact k3 y hy
    · intro y hy
      rcases List.mem_cons.1 hy with rfl | hy
      · rw [hcells.1]; exact l2
      · exact k4 y hy
    · intro k u hu
      rcases Nat.lt_or_ge k cs.length with hk | hk
      · rw [List.getElem?_append_left hk] at hu
        have := c2 k (by omega)
        rw [add_none, add_none] at this
        rw [this]; exact hu
      · rw [List.getElem?_append_right hk] at hu
        have := k5 _ _ hu
        rw [Nat.add_mul, Nat.one_mul] at this
        rw [← this]
        congr 2
        omega
theorem kinds_one {m : Nat} {e : TypeId} {ks : List LK} (hks : kinds P m e = some ks) (ha : isAggT P e = false) : ks.length = 1 := by
  cases m with
  | zero => simp [kinds] at hks
  | succ m =>
    unfold kinds at hks
    unfold isAggT at ha
    split at hks
    · injection hks with hks; subst hks; rfl
    · injection hks with hks; subst hks; rfl
    · injection hks with hks; subst hks; rfl
    · split at hks
      · obtain ⟨k, _, rfl⟩ := Option.map_eq_some_iff.1 hks; rfl
      · cases hks
    · rename_i hu; rw [hu] at ha; cases ha
    · cases hks
theorem trod_ok : ∀ (fuel : Nat) (t : TypeId) (cs : List Value) (d : DataW H) (ps : List MemPlace), DataW.trod enc P w base spare held fuel t cs = some (d, ps) → ∀ m ks, kinds P m t = some ks → ∃ xs, R (Old w) w none xs cs ∧ Ok ks xs := by
  intro fuel
  induction fuel with
  | zero => intro t cs d ps h; simp [DataW.trod] at h
  | succ fuel ih =>
    intro t cs d ps h m ks hks
    cases m with
    | zero => simp [kinds] at hks
    | succ m =>
      unfold kinds at hks
      cases hu : P.underlying t with
      | none => rw [hu] at hks; cases hks
      | some ty =>
        rw [hu] at hks
        cases ty with
        | bool =>
          simp only at hks
          injection hks with hks
          subst hks
          obtain ⟨b, rfl, _⟩ := DataW.trod_bool hu h
          exact ⟨[.bool b], R.cons (R1.bool.2 rfl) (.nil _), .bool .nil⟩
        | int k =>
          simp only at hks
          injection hks with hks
          subst hks
          obtain ⟨n, rfl, _, hw⟩ := DataW.trod_int hu h
          exact ⟨[.int k n], R.cons (R1.int.2 rfl) (.nil _), .int hw .nil⟩
        | string =>
          simp only at hks
          injection hks with hks
          subst hks
          obtain ⟨s, rfl, _, hw⟩ := DataW.trod_string hu h
          exact ⟨[.str s], R.cons (R1.str.2 rfl) (.nil _), .str hw .nil⟩
        | struct fs =>
          simp only at hks
          obtain ⟨kss, hk, hks⟩ := Option.bind_eq_some_iff.1 hks
          split at hks
          case isFalse => cases hks
          rename_i hl
          injection hks with hks
          subst hks
          obtain ⟨xs, n, hn, _, hlen, _, hall⟩ := DataW.trod_struct hu h
          injection hn with hn
          subst hn
          have := fields_ok (fun t cs d ps h ks hk => ih t cs d ps h m ks hk) hlen fs.toList kss 0 hk hl (fun f hf => by
            obtain ⟨i, hi, hfi⟩ := List.getElem_of_mem hf
            have hfi' : fs[i]? = some f := by rw [← Array.getElem?_toList, List.getElem?_eq_getElem hi, hfi]
            rename_i hsz _
            have hx : i < xs.length := by
              have : i < fs.size := (Array.getElem?_eq_some_iff.1 hfi').1
              omega
            exact ⟨xs[i], by rw [hall i f hfi', List.getElem?_eq_getElem hx]⟩)
          simpa using this
        | slice e =>
          simp only at hks
          split at hks
          case isFalse => cases hks
          rename_i hz
          obtain ⟨eks, hek, rfl⟩ := Option.map_eq_some_iff.1 hks
          rcases DataW.trod_slice hu h with ⟨rfl, _⟩ | ⟨a, len, cap, elems, rest, n, hn, rfl, _, _, hlc, hcm, hel, hall, _⟩
          · exact ⟨[.sl true []], R.cons (R1.sl.2 ⟨none, 0, 1, [], rfl, rfl, Nat.le_refl _, Nat.zero_le _, fun _ => rfl, .nil _, Nat.one_pos, fun h => absurd rfl h⟩) (.nil _), .sl (by simp) (by simp) (by simp) .nil⟩
          · injection hn with hn
            subst hn
            rcases Nat.eq_zero_or_pos len with h0 | h0
            · subst h0
              exact ⟨[.sl (decide (cap = 0)) []], R.cons (R1.sl.2 ⟨some a, cap, 1, [], rfl, rfl, Nat.zero_le _, hcm, fun h => by simpa using h, .nil _, Nat.one_pos, fun h => absurd rfl h⟩) (.nil _), .sl (by simp) (by simp) (by simp) .nil⟩
            · have hsome : ∀ i, i < len → ∃ r, (w.cells? base (a.add (i * P.cellsOf e)) (P.cellsOf e)).bind (DataW.trod enc P w base spare held fuel e) = some r := fun i hi =>
                ⟨elems[i]'(by omega), by rw [hall i hi, List.getElem?_eq_getElem]⟩
              obtain ⟨r0, hr0⟩ := hsome 0 h0
              obtain ⟨c0, hc0, hd0⟩ := Option.bind_eq_some_iff.1 hr0
              obtain ⟨g1, g2⟩ := cells_some hc0
              have hcell := g2 0 hz
              simp only [Nat.zero_mul, Addr.add, if_true] at hcell
              rw [List.getElem?_eq_getElem (by omega)] at hcell
              obtain ⟨b, o, spot⟩ := a
              have hspot : spot = none ∧ b < w.heap.size := by
                unfold World.cell? at hcell
                simp only at hcell
                split at hcell
                · rename_i hh
                  split at hcell
                  · cases hcell
                  · rename_i hsp
                    exact ⟨by simpa using hsp, (Array.getElem?_eq_some_iff.1 hh).1⟩
                · cases hcell
              obtain ⟨rfl, hb⟩ := hspot
              obtain ⟨ys, us, k1, k2, k3, k4, k5⟩ := elems_ok hek (kinds_one hek) (fun t cs d ps h ks hk => ih t cs d ps h m ks hk) len 0 fun i _ hi => hsome i (by omega)
              subst k2
              refine ⟨[.sl (decide (cap = ys.length)) ys], R.cons (R1.sl.2 ⟨_, cap, P.cellsOf e, us, rfl, ?_, hlc, hcm, fun h => by simpa using h, k1, hz, fun _ => ⟨b, o, rfl, hb, fun k u hu => ?_⟩⟩) (.nil _), .sl (by omega) k3 k4 .nil⟩
              · rw [List.all_eq_true]
                intro y hy
                have hp := (k4 y hy).pleaf
                cases y with
                | agg ds => exact hp
                | _ => simpa [D.cells, D.pure] using hp
              · have := k5 k u hu
                simpa using this
        | _ => cases hks
end

section
variable {P : Program} {M : Modes}
/-- One argument. -/
theorem arg_ok {H : Type} {enc : TypeId × Value → H} {w : World} {t : TypeId} {v : Value} {d : DataW H} {ps : List MemPlace} {spare : Nat → Bool} {held : Bool} {base r b0 : Nat} {rr : Go.Reach} {m : Nat} {ks : List LK} (hk : kinds P m t = some ks)
    (hval : Value.okWide P w rr b0 t v) (h : DataW.Trod enc P w base spare held t v d ps) : ∃ xs, R1 (Old w) w (vOf (isAggT P t) xs) v ∧ Ok ks xs := by
  obtain ⟨fuel, hf⟩ := h
  obtain ⟨xs, h1, h2⟩ := trod_ok fuel t _ _ _ hf m ks hk
  refine ⟨xs, ?_, h2⟩
  have hpl := h2.pleaf
  unfold vOf
  cases ha : isAggT P t with
  | true =>
    simp only [if_true]
    have : ∃ cs, v = .agg cs := by
      unfold isAggT at ha
      unfold Value.okWide at hval
      split at ha
      · rename_i hu; rw [hu] at hval; obtain ⟨cs, rfl, _⟩ := hval; exact ⟨cs, rfl⟩
      · rename_i hu; rw [hu] at hval; obtain ⟨cs, rfl, _⟩ := hval; exact ⟨cs, rfl⟩
      · cases ha
    obtain ⟨cs, rfl⟩ := this
    refine R1.agg.2 ⟨cs.toList, by simp, by simpa [Value.cells] using h1, ?_⟩
    rw [List.all_eq_true] at hpl ⊢
    exact fun d hd => pleaf_leaf (hpl d hd)
  | false =>
    simp only [Bool.false_eq_true, if_false]
    have hl : xs.length = 1 := by rw [h2.length]; exact kinds_one hk ha
    obtain ⟨x, rfl⟩ := List.length_eq_one_iff.1 hl
    simp only [List.headD_cons]
    have hcs := h1.length
    have hone : ∃ u, v.cells.toList = [u] := by
      obtain ⟨u, hu⟩ := List.length_eq_one_iff.1 (show v.cells.toList.length = 1 by rw [← hcs]; rfl)
      exact ⟨u, hu⟩
    obtain ⟨u, hu⟩ := hone
    rw [hu] at h1
    have huv : u = v := by
      cases v with
      | agg cs =>
        exfalso
        unfold Value.okWide at hval
        unfold isAggT at ha
        have hcell : Cell.okWide P w rr b0 t (.agg cs) := by
          split at ha
          · cases ha
          · cases ha
          · rename_i h3 h4
            split at hval
            · rename_i hu; exact absurd hu (h3 _)
            · rename_i hu; exact absurd hu (h4 _ _)
            · exact hval
        unfold Cell.okWide at hcell
        split at hcell <;> simp_all [Cell.ok]
      | _ => simpa [Value.cells] using hu.symm
    rw [← huv]
    exact h1
/-- What a law answers. -/
theorem law_calls (hgood : GoodM P M) (hprim : PrimOk P M) (hmix : P.follows .mixedOrders = true) {f : FuncId} {xs : List D} {args : Array Value} {W : World} {τ : Store} (hr : R (Old W) W none xs args.toList)
    (h : run P M f xs [] = some (.bool true, τ)) (hent : Enters P f) : Calls P f args W fun e W' => e = .returned (.bool true) ∧ RowKit.Below W.heap.size W W' := by
  have hs : SR (Old W) [] W := ⟨fun id st esz xs h => by simp [Store.obj] at h, fun id st kvs h => by simp [Store.obj] at h, fun id id' o o' h => by simp [Store.obj] at h, fun id o h => by simp [Store.obj] at h, fun b hb => hb, fun id h => h.elim⟩
  refine (((run_ok hgood hprim hmix) _ _ _ _ _ (Old W) W args h hs hr).calls hent).mono ?_
  rintro e W' ⟨v, Γ', rfl, h1, h2, h3⟩
  refine ⟨by rw [R1.bool.1 h1], ⟨h3.tr.os, h3.tr.tape, h3.tr.output, h3.tr.size, fun k hk => h3.tr.kept k hk ?_⟩⟩
  rintro ⟨id, e, xs, ho, _⟩
  simp [Store.obj] at ho
end
end Go.Proofs.Ytfclelafcdcilaa.Dv
/- Arguments, and that each of their slices and texts is no larger than a process bears. -/
set_option linter.unusedVariables false
set_option linter.unusedSimpArgs false
namespace Go.Proofs.Ytfclelafcdcilaa.Dv
open Go
def lkB : LK → Nat
  | .bool => 1
  | .int .i64 | .int .u64 => 8
  | .int _ => 1
  | .str => 16
  | .sl .. => 24
def lksB (ks : List LK) : Nat := (ks.map lkB).sum
inductive OkL (B : Nat) : List LK → List D → Prop
  | nil : OkL B [] []
  | bool {b : Bool} {ks : List LK} {xs : List D} (t : OkL B ks xs) : OkL B (.bool :: ks) (.bool b :: xs)
  | int {k : IntKind} {n : Int} {ks : List LK} {xs : List D} (h : (Lit.int k n).wf = true) (t : OkL B ks xs) : OkL B (.int k :: ks) (.int k n :: xs)
  | str {s : ByteArray} {ks : List LK} {xs : List D} (h : s.size ≤ B) (t : OkL B ks xs) : OkL B (.str :: ks) (.str s :: xs)
  | sl {full agg : Bool} {eks : List LK} {ys : List D} {ks : List LK} {xs : List D} (hl : ys.length * lksB eks ≤ B) (h0 : ys.length ≤ maxLen) (h1 : ∀ y ∈ ys, y.isAgg = agg) (h2 : ∀ y ∈ ys, OkL B eks y.cells) (t : OkL B ks xs) : OkL B (.sl agg eks :: ks) (.sl full ys :: xs)
theorem OkL.ok {B : Nat} (hB : B ≤ maxLen) {ks : List LK} {xs : List D} (h : OkL B ks xs) : Ok ks xs := by
  induction h with
  | nil => exact .nil
  | bool _ ih => exact .bool ih
  | int h _ ih => exact .int h ih
  | str h _ ih => exact .str (Nat.le_trans h hB) ih
  | sl hl h0 h1 h2 t ih2 ih => exact .sl h0 h1 ih2 ih
theorem OkL.pleaf {B : Nat} {ks : List LK} {xs : List D} (h : OkL B ks xs) : xs.all D.pleaf = true := by
  induction h with
  | nil => rfl
  | bool _ ih => simpa [D.pleaf] using ih
  | int _ _ ih => simpa [D.pleaf] using ih
  | str _ _ ih => simpa [D.pleaf] using ih
  | sl _ _ _ _ _ _ ih => simpa [D.pleaf] using ih
theorem OkL.length {B : Nat} {ks : List LK} {xs : List D} (h : OkL B ks xs) : xs.length = ks.length := by
  induction h <;> simp_all
theorem OkL.append {B : Nat} {ks ls : List LK} {xs ys : List D} (h : OkL B ks xs) (k : OkL B ls ys) : OkL B (ks ++ ls) (xs ++ ys) := by
  induction h with
  | nil => exact k
  | bool _ ih => exact .bool ih
  | int h _ ih => exact .int h ih
  | str h _ ih => exact .str h ih
  | sl a b c d _ _ ih => exact .sl a b c d ih
/-- Each slice's elements take as many bytes as their cells ask for. -/
def bytesOk (P : Program) : Nat → TypeId → Bool
  | 0, _ => false
  | m + 1, t => match P.underlying t with
    | some (.slice e) => (match kinds P m e with | some ks => decide (lksB ks ≤ P.bytesOf e) | none => false) && bytesOk P m e
    | some (.struct fs) => fs.toList.all fun f => bytesOk P m f.type
    | _ => true
theorem weights_all {H : Type} {P : Program} {e : TypeId} {d : DataW H} : ∀ {l : List (DataW H)}, d ∈ l → ∀ n ∈ d.weights P e, n ∈ DataW.weightsAll P e l
  | x :: l, h, n, hn => by
    simp only [DataW.weightsAll, List.mem_append]
    rcases List.mem_cons.1 h with rfl | h
    · exact .inl hn
    · exact .inr (weights_all h n hn)
def Fits {H : Type} (P : Program) (B : Nat) (t : TypeId) (d : DataW H) : Prop := ∀ n ∈ d.weights P t, n ≤ B
section
variable {H : Type} {enc : TypeId × Value → H} {P : Program} {w : World} {base : Nat} {spare : Nat → Bool} {held : Bool} {B : Nat}
theorem fields_okL {fuel m : Nat} (ih : ∀ (t : TypeId) (cs : List Value) (d : DataW H) (ps : List MemPlace), DataW.trod enc P w base spare held fuel t cs = some (d, ps) → ∀ ks, kinds P m t = some ks → bytesOk P m t = true → Fits P B t d → ∃ xs, R (Old w) w none xs cs ∧ OkL B ks xs) {cs : List Value} {n : Nat} (hn : cs.length = n) :
    ∀ (fs : List Field) (kss : List (List LK)) (o : Nat), fs.mapM (fun f => kinds P m f.type) = some kss → laid P o fs kss n = true →
      (∀ f ∈ fs, bytesOk P m f.type = true ∧ ∃ x, DataW.trod enc P w base spare held fuel f.type ((cs.drop f.offset).take (P.cellsOf f.type)) = some x ∧ Fits P B f.type x.1) → ∃ xs, R (Old w) w none xs (cs.drop o) ∧ OkL B kss.flatten xs
  | [], kss, o, h1, h2, h3 => by
    simp only [List.mapM_nil] at h1
    injection h1 with h1
    subst h1
    simp only [laid, beq_iff_eq] at h2
    exact ⟨[], by rw [List.drop_of_length_le (by omega)]; exact .nil _, .nil⟩
  | f :: fs, kss, o, h1, h2, h3 => by
    obtain ⟨ks, kss', e1, e2, rfl⟩ := mapM_cons_inv h1
    obtain ⟨hby, ⟨d, ps⟩, e3, hft⟩ := h3 f (List.mem_cons_self ..)
    simp only [laid, Bool.and_eq_true, beq_iff_eq] at h2
    obtain ⟨⟨h4, h5⟩, h6⟩ := h2
    obtain ⟨xs, k1, k2⟩ := ih _ _ _ _ e3 _ e1 hby hft
    obtain ⟨ys, l1, l2⟩ := fields_okL ih hn fs kss' _ e2 h6 fun g hg => h3 g (List.mem_cons_of_mem _ hg)
    refine ⟨xs ++ ys, ?_, by rw [List.flatten_cons]; exact k2.append l2⟩
    rw [h4, ← h5] at k1
    have : cs.drop o = (cs.drop o).take ks.length ++ cs.drop (o + ks.length) := by rw [← List.drop_drop, List.take_append_drop]
    rw [this]
    exact k1.append l1
theorem elems_okL {fuel m : Nat} {e : TypeId} {ks : List LK} (hks : kinds P m e = some ks) (hby : bytesOk P m e = true) (hk1 : isAggT P e = false → ks.length = 1)
    (ih : ∀ (t : TypeId) (cs : List Value) (d : DataW H) (ps : List MemPlace), DataW.trod enc P w base spare held fuel t cs = some (d, ps) → ∀ ks, kinds P m t = some ks → bytesOk P m t = true → Fits P B t d → ∃ xs, R (Old w) w none xs cs ∧ OkL B ks xs) {b o : Nat} :
    ∀ (n s : Nat), (∀ i, s ≤ i → i < s + n → ∃ r, (w.cells? base ((⟨b, o, none⟩ : Addr).add (i * P.cellsOf e)) (P.cellsOf e)).bind (DataW.trod enc P w base spare held fuel e) = some r ∧ Fits P B e r.1) →
      ∃ ys us, R (Old w) w (some (P.cellsOf e)) ys us ∧ ys.length = n ∧ (∀ y ∈ ys, y.isAgg = isAggT P e) ∧ (∀ y ∈ ys, OkL B ks y.cells) ∧ ∀ k u, us[k]? = some u → w.cell? ⟨b, o + s * P.cellsOf e + k, none⟩ = some u
  | 0, s, h => ⟨[], [], .nil _, rfl, by simp, by simp, by simp⟩
  | n + 1, s, h => by
    obtain ⟨⟨d, ps⟩, e1, hft⟩ := h s (Nat.le_refl _) (by omega)
    obtain ⟨ys, us, k1, k2, k3, k4, k5⟩ := elems_okL hks hby hk1 ih n (s + 1) fun i h1 h2 => h i (by omega) (by omega)
    obtain ⟨cs, hc, hd⟩ := Option.bind_eq_some_iff.1 e1
    obtain ⟨xs, l1, l2⟩ := ih _ _ _ _ hd _ hks hby hft
    obtain ⟨c1, c2⟩ := cells_some hc
    have hpl := l2.pleaf
    have hcells : (vOf (isAggT P e) xs).cells = xs ∧ (vOf (isAggT P e) xs).isAgg = isAggT P e ∧ (vOf (isAggT P e) xs).elem = true := by
      unfold vOf
      cases ha : isAggT P e with
      | true =>
        simp only [if_true, D.cells, D.isAgg, D.elem, true_and]
        rw [List.all_eq_true] at hpl ⊢
        exact fun d hd => pleaf_leaf (hpl d hd)
      | false =>
        have hl : xs.length = 1 := by rw [l2.length]; exact hk1 ha
        obtain ⟨x, rfl⟩ := List.length_eq_one_iff.1 hl
        simp only [List.all_cons, List.all_nil, Bool.and_true] at hpl
        simp only [Bool.false_eq_true, if_false, List.headD_cons]
        cases x <;> first | (cases hpl; done) | exact ⟨rfl, rfl, rfl⟩
    refine ⟨vOf (isAggT P e) xs :: ys, cs ++ us, .elem hcells.2.2 (by rw [hcells.1]; exact l1) c1 k1, by simp [k2], ?_, ?_, ?_⟩
    · intro y hy
      rcases List.mem_cons.1 hy with rfl | hy
      · exact hcells.2.1
      · exact k3 y hy
    · intro y hy
      rcases List.mem_cons.1 hy with rfl | hy
      · rw [hcells.1]; exact l2
      · exact k4 y hy
    · intro k u hu
      rcases Nat.lt_or_ge k cs.length with hk | hk
      · rw [List.getElem?_append_left hk] at hu
        have := c2 k (by omega)
        rw [add_none, add_none] at this
        rw [this]; exact hu
      · rw [List.getElem?_append_right hk] at hu
        have := k5 _ _ hu
        rw [Nat.add_mul, Nat.one_mul] at this
        rw [← this]
        congr 2
        omega
theorem trod_okL : ∀ (fuel : Nat) (t : TypeId) (cs : List Value) (d : DataW H) (ps : List MemPlace), DataW.trod enc P w base spare held fuel t cs = some (d, ps) → ∀ m ks, kinds P m t = some ks → bytesOk P m t = true → Fits P B t d → ∃ xs, R (Old w) w none xs cs ∧ OkL B ks xs := by
  intro fuel
  induction fuel with
  | zero => intro t cs d ps h; simp [DataW.trod] at h
  | succ fuel ih =>
    intro t cs d ps h m ks hks hby hft
    cases m with
    | zero => simp [kinds] at hks
    | succ m =>
      unfold kinds at hks
      unfold bytesOk at hby
      cases hu : P.underlying t with
      | none => rw [hu] at hks; cases hks
      | some ty =>
        rw [hu] at hks hby
        cases ty with
        | bool =>
          simp only at hks
          injection hks with hks
          subst hks
          obtain ⟨b, rfl, _⟩ := DataW.trod_bool hu h
          exact ⟨[.bool b], R.cons (R1.bool.2 rfl) (.nil _), .bool .nil⟩
        | int k =>
          simp only at hks
          injection hks with hks
          subst hks
          obtain ⟨n, rfl, _, hw⟩ := DataW.trod_int hu h
          exact ⟨[.int k n], R.cons (R1.int.2 rfl) (.nil _), .int hw .nil⟩
        | string =>
          simp only at hks
          injection hks with hks
          subst hks
          obtain ⟨s, rfl, hx, hw⟩ := DataW.trod_string hu h
          injection hx with hx _
          subst hx
          exact ⟨[.str s], R.cons (R1.str.2 rfl) (.nil _), .str (by simpa using hft s.data.toList.length (by simp [DataW.weights])) .nil⟩
        | struct fs =>
          simp only at hks
          obtain ⟨kss, hk, hks⟩ := Option.bind_eq_some_iff.1 hks
          split at hks
          case isFalse => cases hks
          rename_i hl
          injection hks with hks
          subst hks
          obtain ⟨xs, n, hn, hxx, hlen, hsize, hall⟩ := DataW.trod_struct hu h
          injection hn with hn
          subst hn
          injection hxx with hxx _
          subst hxx
          have := fields_okL (fun t cs d ps h ks hk hb hf => ih t cs d ps h m ks hk hb hf) hlen fs.toList kss 0 hk hl (fun f hf => by
            obtain ⟨i, hi, hfi⟩ := List.getElem_of_mem hf
            have hfi' : fs[i]? = some f := by rw [← Array.getElem?_toList, List.getElem?_eq_getElem hi, hfi]
            have hx : i < xs.length := by
              have : i < fs.size := (Array.getElem?_eq_some_iff.1 hfi').1
              omega
            refine ⟨List.all_eq_true.1 hby f hf, xs[i], by rw [hall i f hfi', List.getElem?_eq_getElem hx], fun n hn => hft n ?_⟩
            simp only [DataW.weights, hu]
            exact DataW.weights_mem_each (j := i) (t := f.type) (d := xs[i].1) (by rw [List.getElem?_map, Array.getElem?_toList, hfi']; rfl) (by rw [List.getElem?_map, List.getElem?_eq_getElem hx]; rfl) n hn)
          simpa using this
        | slice e =>
          simp only at hks
          split at hks
          case isFalse => cases hks
          rename_i hz
          obtain ⟨eks, hek, rfl⟩ := Option.map_eq_some_iff.1 hks
          simp only [hek] at hby
          simp only [Bool.and_eq_true, decide_eq_true_eq] at hby
          obtain ⟨hbe, hby⟩ := hby
          rcases DataW.trod_slice hu h with ⟨rfl, _⟩ | ⟨a, len, cap, elems, rest, n, hn, rfl, hxx, _, hlc, hcm, hel, hall, _⟩
          · exact ⟨[.sl true []], R.cons (R1.sl.2 ⟨none, 0, 1, [], rfl, rfl, Nat.le_refl _, Nat.zero_le _, fun _ => rfl, .nil _, Nat.one_pos, fun h => absurd rfl h⟩) (.nil _), .sl (by simp) (by simp) (by simp) (by simp) .nil⟩
          · injection hn with hn
            subst hn
            injection hxx with hxx _
            subst hxx
            have hbig : (elems.length + rest.length) * P.bytesOf e ≤ B := by simpa using hft ((elems.length + rest.length) * P.bytesOf e) (by simp [DataW.weights, hu])
            have hln : len * lksB eks ≤ B := Nat.le_trans (Nat.mul_le_mul (by omega) hbe) hbig
            rcases Nat.eq_zero_or_pos len with h0 | h0
            · subst h0
              exact ⟨[.sl (decide (cap = 0)) []], R.cons (R1.sl.2 ⟨some a, cap, 1, [], rfl, rfl, Nat.zero_le _, hcm, fun h => by simpa using h, .nil _, Nat.one_pos, fun h => absurd rfl h⟩) (.nil _), .sl (by simp) (by simp) (by simp) (by simp) .nil⟩
            · have hsome : ∀ i, i < len → ∃ r, (w.cells? base (a.add (i * P.cellsOf e)) (P.cellsOf e)).bind (DataW.trod enc P w base spare held fuel e) = some r ∧ Fits P B e r.1 := fun i hi =>
                ⟨elems[i]'(by omega), by rw [hall i hi, List.getElem?_eq_getElem], fun n hn => hft n (by
                  simp only [DataW.weights, hu, List.mem_cons, List.mem_append]
                  exact .inr (.inl (weights_all (List.mem_map_of_mem (List.getElem_mem _)) n hn)))⟩
              obtain ⟨r0, hr0, _⟩ := hsome 0 h0
              obtain ⟨c0, hc0, hd0⟩ := Option.bind_eq_some_iff.1 hr0
              obtain ⟨g1, g2⟩ := cells_some hc0
              have hcell := g2 0 hz
              simp only [Nat.zero_mul, Addr.add, if_true] at hcell
              rw [List.getElem?_eq_getElem (by omega)] at hcell
              obtain ⟨b, o, spot⟩ := a
              have hspot : spot = none ∧ b < w.heap.size := by
                unfold World.cell? at hcell
                simp only at hcell
                split at hcell
                · rename_i hh
                  split at hcell
                  · cases hcell
                  · rename_i hsp
                    exact ⟨by simpa using hsp, (Array.getElem?_eq_some_iff.1 hh).1⟩
                · cases hcell
              obtain ⟨rfl, hb⟩ := hspot
              obtain ⟨ys, us, k1, k2, k3, k4, k5⟩ := elems_okL hek hby (kinds_one hek) (fun t cs d ps h ks hk hb hf => ih t cs d ps h m ks hk hb hf) len 0 fun i _ hi => hsome i (by omega)
              subst k2
              refine ⟨[.sl (decide (cap = ys.length)) ys], R.cons (R1.sl.2 ⟨_, cap, P.cellsOf e, us, rfl, ?_, hlc, hcm, fun h => by simpa using h, k1, hz, fun _ => ⟨b, o, rfl, hb, fun k u hu => ?_⟩⟩) (.nil _), .sl hln (by omega) k3 k4 .nil⟩
              · rw [List.all_eq_true]
                intro y hy
                have hp := (k4 y hy).pleaf
                cases y with
                | agg ds => exact hp
                | _ => simpa [D.cells, D.pure] using hp
              · have := k5 k u hu
                simpa using this
        | _ => cases hks
end

section
variable {P : Program} {M : Modes}
/-- One argument. -/
theorem arg_okL {B : Nat} {H : Type} {enc : TypeId × Value → H} {w : World} {t : TypeId} {v : Value} {d : DataW H} {ps : List MemPlace} {spare : Nat → Bool} {held : Bool} {base r b0 : Nat} {rr : Go.Reach} {m : Nat} {ks : List LK} (hk : kinds P m t = some ks)
    (hby : bytesOk P m t = true) (hft : Fits P B t d) (hval : Value.okWide P w rr b0 t v) (h : DataW.Trod enc P w base spare held t v d ps) : ∃ xs, R1 (Old w) w (vOf (isAggT P t) xs) v ∧ OkL B ks xs := by
  obtain ⟨fuel, hf⟩ := h
  obtain ⟨xs, h1, h2⟩ := trod_okL fuel t _ _ _ hf m ks hk hby hft
  refine ⟨xs, ?_, h2⟩
  have hpl := h2.pleaf
  unfold vOf
  cases ha : isAggT P t with
  | true =>
    simp only [if_true]
    have : ∃ cs, v = .agg cs := by
      unfold isAggT at ha
      unfold Value.okWide at hval
      split at ha
      · rename_i hu; rw [hu] at hval; obtain ⟨cs, rfl, _⟩ := hval; exact ⟨cs, rfl⟩
      · rename_i hu; rw [hu] at hval; obtain ⟨cs, rfl, _⟩ := hval; exact ⟨cs, rfl⟩
      · cases ha
    obtain ⟨cs, rfl⟩ := this
    refine R1.agg.2 ⟨cs.toList, by simp, by simpa [Value.cells] using h1, ?_⟩
    rw [List.all_eq_true] at hpl ⊢
    exact fun d hd => pleaf_leaf (hpl d hd)
  | false =>
    simp only [Bool.false_eq_true, if_false]
    have hl : xs.length = 1 := by rw [h2.length]; exact kinds_one hk ha
    obtain ⟨x, rfl⟩ := List.length_eq_one_iff.1 hl
    simp only [List.headD_cons]
    have hcs := h1.length
    have hone : ∃ u, v.cells.toList = [u] := by
      obtain ⟨u, hu⟩ := List.length_eq_one_iff.1 (show v.cells.toList.length = 1 by rw [← hcs]; rfl)
      exact ⟨u, hu⟩
    obtain ⟨u, hu⟩ := hone
    rw [hu] at h1
    have huv : u = v := by
      cases v with
      | agg cs =>
        exfalso
        unfold Value.okWide at hval
        unfold isAggT at ha
        have hcell : Cell.okWide P w rr b0 t (.agg cs) := by
          split at ha
          · cases ha
          · cases ha
          · rename_i h3 h4
            split at hval
            · rename_i hu; exact absurd hu (h3 _)
            · rename_i hu; exact absurd hu (h4 _ _)
            · exact hval
        unfold Cell.okWide at hcell
        split at hcell <;> simp_all [Cell.ok]
      | _ => simpa [Value.cells] using hu.symm
    rw [← huv]
    exact h1
theorem fits_of {H : Type} {P : Program} {ts : List TypeId} {ds : List (DataW H)} (h : (DataW.weightsEach P ts ds).all (· ≤ reachBytes) = true) {j : Nat} {t : TypeId} {d : DataW H} (ht : ts[j]? = some t) (hd : ds[j]? = some d) : Fits P reachBytes t d := fun n hn => by
  simpa using List.all_eq_true.1 h n (DataW.weights_mem_each ht hd n hn)
end
end Go.Proofs.Ytfclelafcdcilaa.Dv
