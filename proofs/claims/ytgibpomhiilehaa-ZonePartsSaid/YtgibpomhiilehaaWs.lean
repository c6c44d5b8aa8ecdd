/- What is computed from the code holds of the machine. -/
import Derived.Test.YtgibpomhiilehaaWp
set_option linter.unusedVariables false
set_option linter.unusedSimpArgs false
namespace Go.Proofs.Ytgibpomhiilehaa.Dv
open Go

theorem inK_wrap {k : IntKind} {x : Int} (h : inK k x) : IntKind.wrap k x = x := by
  cases k <;> simp only [inK] at h <;> first | exact h | skip
  all_goals
    unfold IntKind.wrap
    simp only [show (2 ^ IntKind.bits .i64 : Int) = 18446744073709551616 by decide, show (2 ^ (IntKind.bits .i64 - 1) : Int) = 9223372036854775808 by decide, show IntKind.signed .i64 = true from rfl,
      show (2 ^ IntKind.bits .u64 : Int) = 18446744073709551616 by decide, show (2 ^ (IntKind.bits .u64 - 1) : Int) = 9223372036854775808 by decide, show IntKind.signed .u64 = false from rfl,
      show (2 ^ IntKind.bits .u8 : Int) = 256 by decide, show IntKind.signed .u8 = false from rfl, show (2 ^ IntKind.bits .u32 : Int) = 4294967296 by decide, show IntKind.signed .u32 = false from rfl,
      show (2 ^ IntKind.bits .i32 : Int) = 4294967296 by decide, show (2 ^ (IntKind.bits .i32 - 1) : Int) = 2147483648 by decide, show IntKind.signed .i32 = true from rfl, Bool.true_and, Bool.false_and, decide_eq_true_eq, Bool.false_eq_true, if_false]
    try split
    all_goals omega
theorem wr_wrap {k : IntKind} {x : Int} : wr k x = IntKind.wrap k x := by
  cases k <;> simp only [wr] <;> unfold IntKind.wrap <;>
    simp only [show (2 ^ IntKind.bits .i64 : Int) = 18446744073709551616 by decide, show (2 ^ (IntKind.bits .i64 - 1) : Int) = 9223372036854775808 by decide, show IntKind.signed .i64 = true from rfl,
      show (2 ^ IntKind.bits .u64 : Int) = 18446744073709551616 by decide, show IntKind.signed .u64 = false from rfl,
      show (2 ^ IntKind.bits .u8 : Int) = 256 by decide, show IntKind.signed .u8 = false from rfl, show (2 ^ IntKind.bits .u32 : Int) = 4294967296 by decide, show IntKind.signed .u32 = false from rfl,
      Bool.true_and, Bool.false_and, decide_eq_true_eq, Bool.false_eq_true, if_false]
  split <;> omega
theorem inK_div {k : IntKind} {a b : Int} (h : inK k a) (ha : 0 ≤ a) (hb : 0 < b) : IntKind.wrap k (a.tdiv b) = a / b := by
  have e : a.tdiv b = a / b := Int.tdiv_eq_ediv_of_nonneg ha
  have h1 : 0 ≤ a / b := Int.ediv_nonneg ha (by omega)
  have h2 : a / b ≤ a := Int.ediv_le_self b ha
  rw [e]
  cases k with
  | i64 | u64 | u8 | u32 | i32 => exact inK_wrap (by simp only [inK] at h ⊢; omega)
  | _ =>
    simp only [inK] at h
    have : IntKind.wrap _ a = a := h
    unfold IntKind.wrap at this ⊢
    simp only [show (2 ^ IntKind.bits .i8 : Int) = 256 by decide, show (2 ^ (IntKind.bits .i8 - 1) : Int) = 128 by decide, show IntKind.signed .i8 = true from rfl,
      show (2 ^ IntKind.bits .i16 : Int) = 65536 by decide, show (2 ^ (IntKind.bits .i16 - 1) : Int) = 32768 by decide, show IntKind.signed .i16 = true from rfl,
      show (2 ^ IntKind.bits .u16 : Int) = 65536 by decide, show IntKind.signed .u16 = false from rfl, Bool.true_and, Bool.false_and, decide_eq_true_eq, Bool.false_eq_true, if_false] at this ⊢
    try split at this
    all_goals try split
    all_goals omega
theorem onO_ok {α : Type} {o : Option α} {K : α → Prop} (h : onO o K) : ∃ a, o = some a ∧ K a := by
  unfold onO at h
  split at h
  · exact ⟨_, rfl, h⟩
  · exact h.elim
theorem wpInt_ok {h : Hn} {k : IntKind} {x : Int} {K : D → Prop} (hw : wpInt h k x K) : K (.int k (k.wrap x)) := by
  unfold wpInt at hw
  split at hw
  · rw [inK_wrap hw.1]; exact hw.2
  · rw [inK_wrap hw.1]; exact hw.2 _ rfl
  · rw [← wr_wrap]; exact hw
  · rw [← wr_wrap]; exact hw _ rfl
  · rw [inK_wrap hw.1]; exact hw.2
theorem wpQuo_ok {h : Hn} {k : IntKind} {a b : Int} {K : D → Prop} (hw : wpQuo h k a b K) : b ≠ 0 ∧ K (.int k (k.wrap (a.tdiv b))) := by
  unfold wpQuo at hw
  split at hw
  · obtain ⟨h1, h2, h3, h4⟩ := hw; exact ⟨by omega, by rw [inK_div h3 h1 h2]; exact h4⟩
  · obtain ⟨h1, h2, h3, h4⟩ := hw; exact ⟨by omega, by rw [inK_div h3 h1 h2]; exact h4 _ rfl⟩
  · exact ⟨hw.1, by rw [← wr_wrap]; exact hw.2⟩
  · exact ⟨hw.1, by rw [← wr_wrap]; exact hw.2 _ rfl⟩
  · exact hw.elim
theorem wpRem_ok {h : Hn} {k : IntKind} {a b : Int} {K : D → Prop} (hw : wpRem h k a b K) : b ≠ 0 ∧ K (.int k (a.tmod b)) := by
  unfold wpRem at hw
  split at hw
  · obtain ⟨h1, h2, h4⟩ := hw; exact ⟨by omega, by rw [Int.tmod_eq_emod_of_nonneg h1]; exact h4⟩
  · obtain ⟨h1, h2, h4⟩ := hw; exact ⟨by omega, by rw [Int.tmod_eq_emod_of_nonneg h1]; exact h4 _ rfl⟩
  · exact hw
  · exact ⟨hw.1, hw.2 _ rfl⟩
  · exact hw.elim
theorem wpName_ok {h : Hn} {k : IntKind} {x : Int} {K : D → Prop} (hw : wpName h k x K) : K (.int k x) := by
  unfold wpName at hw
  split at hw
  · exact hw _ rfl
  · exact hw _ rfl
  · exact hw
theorem fdiv_pow (a : Int) (n : Nat) : a.fdiv (2 ^ n) = a / 2 ^ n := Int.fdiv_eq_ediv_of_nonneg a (Int.pow_nonneg (by decide))
theorem wpNil_ok {P : Program} {op : BinOp} {t : TypeId} {x : D} {K : D → Prop} (hw : wpNil P op t x K) : ∃ v, nilBin P op t x = some v ∧ K v := by
  unfold wpNil at hw
  unfold nilBin
  split at hw
  · rename_i e hk
    rw [hk]
    simp only
    split at hw
    · simp only
      split at hw
      · rename_i f xs
        cases xs with
        | nil => exact absurd rfl hw.1
        | cons a as' => exact ⟨_, rfl, hw.2⟩
      · rename_i len _ _
        cases len with
        | zero => exact absurd hw.1 (by omega)
        | succ n => exact ⟨_, rfl, hw.2⟩
      · exact ⟨_, rfl, hw⟩
      · exact hw.elim
    · simp only
      split at hw
      · rename_i f xs
        cases xs with
        | nil => exact absurd rfl hw.1
        | cons a as' => exact ⟨_, rfl, hw.2⟩
      · rename_i len _ _
        cases len with
        | zero => exact absurd hw.1 (by omega)
        | succ n => exact ⟨_, rfl, hw.2⟩
      · exact ⟨_, rfl, hw⟩
      · exact hw.elim
    · exact hw.elim
  · exact hw.elim
theorem wpBin_ok {P : Program} {h : Hn} {op : BinOp} {t : TypeId} {x y : D} {K : D → Prop} (hw : wpBin P h op t x y K) : ∃ v, evBin P op t x y = some v ∧ K v := by
  unfold wpBin at hw
  split at hw
  · rename_i k a k' b
    split at hw
    · obtain ⟨h1, h2⟩ := onB_ok hw; have hk := of_decide_eq_true h1; subst hk; exact ⟨.int k (k.wrap (a + b)), by simp only [evBin, if_true, binInt], wpInt_ok h2⟩
    · obtain ⟨h1, h2⟩ := onB_ok hw; have hk := of_decide_eq_true h1; subst hk; exact ⟨.int k (k.wrap (a - b)), by simp only [evBin, if_true, binInt], wpInt_ok h2⟩
    · obtain ⟨h1, h2⟩ := onB_ok hw; have hk := of_decide_eq_true h1; subst hk; exact ⟨.int k (k.wrap (a * b)), by simp only [evBin, if_true, binInt], wpInt_ok h2⟩
    · obtain ⟨h1, h2⟩ := onB_ok hw
      obtain ⟨h3, h4⟩ := wpQuo_ok h2
      exact ⟨_, by simp only [evBin, of_decide_eq_true h1, if_true, binInt]; rw [if_neg h3], by rw [of_decide_eq_true h1] at h4; exact h4⟩
    · obtain ⟨h1, h2⟩ := onB_ok hw
      obtain ⟨h3, h4⟩ := wpRem_ok h2
      exact ⟨_, by simp only [evBin, of_decide_eq_true h1, if_true, binInt]; rw [if_neg h3], by rw [of_decide_eq_true h1] at h4; exact h4⟩
    · exact ⟨_, by simp only [evBin, shInt]; rw [if_neg (by omega)], by have := wpName_ok hw.2; unfold shlK at this; rw [wr_wrap] at this; exact this⟩
    · exact ⟨_, by simp only [evBin, shInt]; rw [if_neg (by omega), fdiv_pow]; rfl, wpName_ok hw.2⟩
    · obtain ⟨h1, h2⟩ := onB_ok hw; have hk := of_decide_eq_true h1; subst hk; exact ⟨.int k (andK k a b), by simp only [evBin, if_true, binInt, andK], wpName_ok h2⟩
    · obtain ⟨h1, h2⟩ := onB_ok hw; have hk := of_decide_eq_true h1; subst hk; exact ⟨.int k (orK k a b), by simp only [evBin, if_true, binInt, orK], wpName_ok h2⟩
    · obtain ⟨h1, h2⟩ := onB_ok hw; have hk := of_decide_eq_true h1; subst hk; exact ⟨.int k (xorK k a b), by simp only [evBin, if_true, binInt, xorK], wpName_ok h2⟩
    · exact onO_ok hw
  · rename_i a b
    split at hw
    · exact ⟨_, by simp only [evBin, binStr]; rw [if_pos hw.1], hw.2⟩
    · obtain ⟨v, h1, h2⟩ := onO_ok hw; exact ⟨v, h1, h2⟩
  · exact onO_ok hw

/-! ### lending -/
theorem lendLeafW_ok {σ : Store} {d : D} {K : D → List Nat → Prop} (h : lendLeafW σ d K) : K (lendLeaf σ d).1 (lendLeaf σ d).2 := by
  cases d with
  | ms id off len cap ex =>
    unfold lendLeafW at h
    simp only at h
    unfold lendLeaf
    split at h
    · rename_i ho
      simp only [ho]
      rw [if_pos ⟨h.1, h.2.1⟩]
      exact h.2.2
    · exact h.elim
  | _ => exact h
theorem lendLeavesW_ok {σ : Store} : ∀ {ds : List D} {K : List D → List Nat → Prop}, lendLeavesW σ ds K → K (ds.map fun d => (lendLeaf σ d).1) (ds.flatMap fun d => (lendLeaf σ d).2)
  | [], K, h => h
  | d :: ds, K, h => by
    unfold lendLeavesW at h
    have := lendLeavesW_ok (lendLeafW_ok h)
    simpa using this
theorem lendW_ok {σ : Store} {d : D} {K : D → List Nat → Prop} (h : lendW σ d K) : K (lend σ d).1 (lend σ d).2 := by
  cases d with
  | agg ds => exact lendLeavesW_ok h
  | _ => exact lendLeafW_ok h
theorem lendsW_ok {σ : Store} : ∀ {ds : List D} {K : List D → List Nat → Prop}, lendsW σ ds K → K (ds.map fun d => (lend σ d).1) (ds.flatMap fun d => (lend σ d).2)
  | [], K, h => h
  | d :: ds, K, h => by
    unfold lendsW at h
    have := lendsW_ok (lendW_ok h)
    simpa using this
theorem frzLeafW_ok {σ : Store} {d : D} {K : D → Prop} (h : frzLeafW σ d K) (b : Nat) : ∃ d', frzLeaf b σ d = some d' ∧ K d' := by
  cases d with
  | ms id off len cap ex =>
    unfold frzLeafW at h
    simp only at h
    split at h
    · rename_i ho
      obtain ⟨h1, h2, h3, h4⟩ := onB_ok h
      exact ⟨_, by unfold frzLeaf; simp only [ho]; rw [if_pos ⟨of_decide_eq_true h1, h2, h3⟩], h4⟩
    · exact h.elim
  | _ =>
    unfold frzLeafW at h
    simp only at h
    obtain ⟨h1, h2⟩ := onB_ok h
    exact ⟨_, by unfold frzLeaf; simp only; rw [if_pos h1], h2⟩
theorem frzLeavesW_ok {σ : Store} (b : Nat) : ∀ {ds : List D} {K : List D → Prop}, frzLeavesW σ ds K → ∃ ds', ds.mapM (frzLeaf b σ) = some ds' ∧ K ds'
  | [], K, h => ⟨[], rfl, h⟩
  | d :: ds, K, h => by
    unfold frzLeavesW at h
    obtain ⟨d', h1, h2⟩ := frzLeafW_ok h b
    obtain ⟨ds', h3, h4⟩ := frzLeavesW_ok b h2
    exact ⟨d' :: ds', by simp [List.mapM_cons, h1, h3], h4⟩
theorem frzValW_ok {σ : Store} {d : D} {K : D → Prop} (h : frzValW σ d K) (b : Nat) : ∃ d', frzVal b σ d = some d' ∧ K d' := by
  cases d with
  | agg ds =>
    obtain ⟨ds', h1, h2⟩ := frzLeavesW_ok b h
    exact ⟨.agg ds', by unfold frzVal; simp only [h1]; rfl, h2⟩
  | _ => simp only [frzValW] at h; simp only [frzVal]; exact frzLeafW_ok h b
theorem frzValsW_ok {σ : Store} (b : Nat) : ∀ {ds : List D} {K : List D → Prop}, frzValsW σ ds K → ∃ ds', ds.mapM (frzVal b σ) = some ds' ∧ K ds'
  | [], K, h => ⟨[], rfl, h⟩
  | d :: ds, K, h => by
    unfold frzValsW at h
    obtain ⟨d', h1, h2⟩ := frzValW_ok h b
    obtain ⟨ds', h3, h4⟩ := frzValsW_ok b h2
    exact ⟨d' :: ds', by simp [List.mapM_cons, h1, h3], h4⟩
theorem frzW_ok {σ : Store} {d : D} {K : D → Prop} (h : frzW σ d K) (b : Nat) : ∃ d', frz b σ d = some d' ∧ K d' := by
  cases d with
  | tup ds =>
    obtain ⟨ds', h1, h2⟩ := frzValsW_ok b h
    exact ⟨.tup ds', by unfold frz; simp only [h1]; rfl, h2⟩
  | _ => simp only [frzW] at h; simp only [frz]; exact frzValW_ok h b

/-! ### what callees are known to do -/
def DataFun (P : Program) (f : FuncId) (args : List D) (r : D) : Prop :=
  frz 0 [] r = some r ∧ ∀ (Γ0 : Ctx) (w : World) (vargs : Array Value), SR Γ0 [] w → R Γ0 w none args vargs.toList →
    Does P f vargs w fun x w' => ∃ v C', x = .returned v ∧ DataR C' w' r v ∧ Behind Γ0.C w C' w'
def RefFun (P : Program) (f : FuncId) (args : List D) (σ : Store) (r : D) (σ' : Store) : Prop :=
  ∀ (Γ : Ctx) (w : World) (vargs : Array Value), SR Γ σ w → R Γ w none args vargs.toList → Does P f vargs w (Post Γ σ w r σ')
structure SpecsOk (P : Program) (C : WCfg) : Prop where
  data : ∀ g as o, C.spec g as = some o → o.pre → DataFun P g as o.r
  ref : ∀ g as σ p r σ', C.byref g = true → C.bspec g as σ = some (p, r, σ') → p → RefFun P g as σ r σ'
  ro : ∀ g as σ p r σ', C.byref g = true → C.ro g = true → C.bspec g as σ = some (p, r, σ') → σ' = σ
open Classical in
noncomputable def runS (C : WCfg) : CallF := fun f args σ =>
  match C.byref f with
  | true => match C.bspec f args σ with
    | some (p, r, σ') => if p then some (r, σ') else none
    | none => none
  | false => match C.spec f args with
    | some o => if o.pre ∧ σ = [] then some (o.r, []) else none
    | none => none
noncomputable abbrev CS (C : WCfg) : CallF := callD C.M (runS C)
theorem callS_ok {P : Program} {C : WCfg} (hC : SpecsOk P C) : CallOk P (CS C) := by
  intro f args σ r σ' Γ w vargs h hs hargs
  unfold CS callD at h
  have hp : C.M.prim f = none := rfl
  simp only [hp] at h
  cases hb : C.M.byref f with
  | true =>
    simp only [hb, if_true] at h
    obtain ⟨σ1, h', hσ⟩ : ∃ σ1, runS C f args σ = some (r, σ1) ∧ (σ' = σ1 ∨ (C.ro f = true ∧ σ' = σ)) := by
      split at h
      · rename_i hro
        obtain ⟨q, hq, he⟩ := Option.bind_eq_some_iff.1 h
        obtain ⟨h1, h2, _⟩ := roEnd_some he
        subst h1 h2
        exact ⟨q.2, hq, .inr ⟨hro, rfl⟩⟩
      · exact ⟨σ', h, .inl rfl⟩
    clear h
    unfold runS at h'
    rw [show C.byref f = true from hb] at h'
    simp only at h'
    split at h'
    · rename_i p r1 σ2 hsp
      split at h'
      · rename_i hpp
        injection h' with h'; injection h' with h1 h2; subst h1 h2
        rcases hσ with rfl | ⟨hro, rfl⟩
        · exact hC.ref _ _ _ _ _ _ hb hsp hpp Γ w vargs hs hargs
        · have := hC.ro _ _ _ _ _ _ hb hro hsp
          subst this
          exact hC.ref _ _ _ _ _ _ hb hsp hpp Γ w vargs hs hargs
      · cases h'
    · cases h'
  | false =>
    simp only [hb, Bool.false_eq_true, if_false] at h
    have hl := lends_rows (σ := σ) (ds := args)
    have hag : Agree Γ { Γ with C := fun b => Γ.C b ∨ ∃ id ∈ args.flatMap fun d => (lend σ d).2, Γ.ρ id = b } := ⟨fun b hb => .inl hb, fun _ h => h, fun _ _ => rfl, fun _ _ => rfl, fun _ _ => rfl⟩
    have hargs' := lends_ok hs hag hargs fun id hid => .inr ⟨id, hid, rfl⟩
    obtain ⟨hs1, hno1⟩ := hs.shut hl (C := fun b => Γ.C b ∨ ∃ id ∈ args.flatMap fun d => (lend σ d).2, Γ.ρ id = b) fun b => Iff.rfl
    have fin : ∀ {bs : Nat} {r0 r' : D} {τ τ0 : Store}, (∃ Γ1 : Ctx, SR Γ1 [] w ∧ R Γ1 w none (args.map fun d => (lend σ d).1) vargs.toList ∧ Γ1.C = fun b => Γ.C b ∨ ∃ id ∈ args.flatMap fun d => (lend σ d).2, Γ.ρ id = b) →
        runS C f (args.map fun d => (lend σ d).1) τ0 = some (r0, τ) → frz bs τ r0 = some r' → (σ.behind (args.flatMap fun d => (lend σ d).2) r').map (fun s => (r', s)) = some (r, σ') → Does P f vargs w (Post Γ σ w r σ') := by
      rintro bs r0 r' τ τ0 ⟨Γ1, g1, g2, g3⟩ hr hf h
      unfold runS at hr
      rw [show C.byref f = false from hb] at hr
      simp only at hr
      split at hr
      case h_2 => cases hr
      rename_i o ho
      split at hr
      case isFalse => cases hr
      rename_i hpre
      injection hr with hr; injection hr with e1 e2; subst e1 e2
      obtain ⟨k0, kk⟩ := hC.data _ _ _ ho hpre.1
      have hrr : r' = o.r := by
        have hx : ∀ b, frz b [] o.r = frz 0 [] o.r := by
          intro b
          have l1 : ∀ d, frzLeaf b [] d = frzLeaf 0 [] d := fun d => rfl
          have l2 : ∀ d, frzVal b [] d = frzVal 0 [] d := fun d => rfl
          rfl
        rw [hx, k0] at hf
        injection hf with hf; exact hf.symm
      subst hrr
      obtain ⟨s, hbh, he⟩ := Option.map_eq_some_iff.1 h
      injection he with he1 he2
      subst he1 he2
      refine (kk Γ1 w vargs g1 g2).mono fun x w' hp => ?_
      obtain ⟨v, C', rfl, hd, hbe⟩ := hp
      rw [g3] at hbe
      exact back_ok hs hl (fun b => Iff.rfl) hbe hd hbh
    split at h
    · rename_i hfree
      split at h
      · rename_i r0 τ hr
        split at h
        · rename_i r' hf
          refine fin ⟨{ Γ with C := fun b => Γ.C b ∨ ∃ id ∈ args.flatMap fun d => (lend σ d).2, Γ.ρ id = b, A := fun _ => False }, ?_, ?_, rfl⟩ hr hf h
          · exact ⟨fun id st esz xs h => by simp [Store.obj] at h, fun id st kvs h => by simp [Store.obj] at h, fun id id' o o' h => by simp [Store.obj] at h, fun id o h => by simp [Store.obj] at h, hs1.old, fun id h => h.elim⟩
          · exact hargs'.free (fun b hb => by exact hb) (fun _ _ => rfl) hfree
        · cases h
      · cases h
    · cases h

/-! ### operations -/
section
variable {P : Program} {C : WCfg} {o : Oper} {e : Env} {L : Lits} {aid : Nat} {σ : Store} {K : KOp}
theorem askW_ok {h : Hn} {d : Nat} {b : Bool} {Kb : Bool → Env → Lits → Prop} (he : e d = .bool b) (h : askW h e L d b Kb) : ∃ L', Kb b e L' := by
  unfold askW at h
  split at h
  · cases b <;> exact ⟨_, h⟩
  have hp : ∀ x, b = x → e.put d (.bool x) = e := by
    intro x hx
    funext i
    unfold Env.put
    split
    · rename_i hi; rw [hi, he, hx]
    · rfl
  split at h
  · obtain ⟨h1, h2⟩ := h; rw [hp true h1] at h2; subst h1; exact ⟨_, h2⟩
  · obtain ⟨h1, h2⟩ := h; rw [hp false h1] at h2; subst h1; exact ⟨_, h2⟩
  · cases b <;> exact ⟨_, h⟩
  · have hp : ∀ x, b = x → e.put d (.bool x) = e := by
      intro x hx
      funext i
      unfold Env.put
      split
      · rename_i hi; rw [hi, he, hx]
      · rfl
    cases b with
    | true => have := h.1 rfl; rw [hp true rfl] at this; exact ⟨_, this⟩
    | false => have := h.2 rfl; rw [hp false rfl] at this; exact ⟨_, this⟩
def OpGo (P : Program) (C : WCfg) (o : Oper) (e : Env) (aid : Nat) (σ : Store) (K : KOp) : Prop :=
  ∃ v i σ' f L', step P (CS C) o e aid σ = some (v, σ', f) ∧ K e L' v i σ' f
theorem OpGo.of (hg : isGo o = false) {v : D} {i : Inf} {σ' : Store} {f : Foot} {L' : Lits} (h : evOp P o e aid σ = some (v, σ', f)) (hk : K e L' v i σ' f) : OpGo P C o e aid σ K :=
  ⟨v, i, σ', f, L', by rw [step_other hg]; exact h, hk⟩
theorem genW_ok (hg : isGo o = false) {i : Inf} (h : genW P o e L aid σ i K) : OpGo P C o e aid σ K := by
  unfold genW at h
  split at h
  · rename_i v σ' f hh; exact .of hg hh h
  · exact h.elim
theorem loadW_ok {t : TypeId} {a : D} {i : Inf} {Kl : D → Foot → Prop} (h : loadW P C t a i σ Kl) : ∃ v f, evLoad (ti P t) a σ = some (v, f) ∧ Kl v f := by
  have gen : onO (evLoad (ti P t) a σ) (fun r => Kl r.1 r.2) → ∃ v f, evLoad (ti P t) a σ = some (v, f) ∧ Kl v f := by
    intro h; obtain ⟨⟨v, f⟩, h1, h2⟩ := onO_ok h; exact ⟨v, f, h1, h2⟩
  unfold loadW at h
  split at h
  · split at h
    · split at h
      · rename_i ho
        split at h
        · obtain ⟨x, h1, h2⟩ := h
          obtain ⟨v, h3, h4⟩ := onO_ok h2
          exact ⟨v, _, by unfold evLoad; simp only [ho, h1, h3]; rfl, h4⟩
        · exact h.elim
      · exact h.elim
    · exact gen h
  · split at h
    · split at h
      · rename_i ho
        split at h
        · rename_i ds cd hx _
          obtain ⟨x, h1, h2⟩ := h
          obtain ⟨h3, h4⟩ := onB_ok h2
          obtain ⟨k1, k2, k3⟩ := of_decide_eq_true h3
          refine ⟨_, _, ?_, h4⟩
          unfold evLoad
          simp only [ho, hx]
          unfold sub
          rw [if_neg (by rw [k1]; decide), if_neg (by rw [k2]; rintro ⟨_, h, _⟩; cases h), k2]
          simp only [Bool.false_eq_true, if_false, k3, if_true, D.cells, h1]
          rfl
        · exact h.elim
      · exact h.elim
    · exact h.elim
  · exact gen h
theorem storeW_ok {t : TypeId} {a v : D} {i : Inf} {Kl : Store → Foot → Prop} (h : storeW P C t a v i σ Kl) : ∃ s f, evStore (ti P t) a v σ = some (s, f) ∧ Kl s f := by
  have gen : onO (evStore (ti P t) a v σ) (fun r => Kl r.1 r.2) → ∃ s f, evStore (ti P t) a v σ = some (s, f) ∧ Kl s f := by
    intro h; obtain ⟨⟨v, f⟩, h1, h2⟩ := onO_ok h; exact ⟨v, f, h1, h2⟩
  unfold storeW at h
  split at h
  · split at h
    · split at h
      · rename_i ho
        split at h
        · obtain ⟨x, h1, h2⟩ := h
          obtain ⟨h3, h4⟩ := onB_ok h2
          obtain ⟨x', h5, h6⟩ := onO_ok h4
          exact ⟨_, _, by unfold evStore; simp only [ho, h1, h3, if_true, h5]; rfl, h6⟩
        · exact h.elim
      · exact h.elim
    · exact gen h
  · split at h
    · split at h
      · rename_i ho
        split at h
        · rename_i ds hx
          obtain ⟨h1, h2⟩ := h
          obtain ⟨h3, h4⟩ := onB_ok h2
          rw [Bool.and_eq_true, Bool.not_eq_true'] at h3
          refine ⟨_, _, ?_, h4⟩
          unfold evStore
          simp only [ho, hx, h3.1, if_true]
          unfold upd
          rw [if_neg (by rw [h3.2]; rintro ⟨_, h, _⟩; cases h)]
          simp only [cells_flat h3.2, List.length_singleton]
          rw [if_pos (by omega)]
          rfl
        · exact h.elim
      · exact h.elim
    · exact h.elim
  · exact gen h
theorem idxW_ok {t : TypeId} {x ix : D} {Kl : D → Inf → Foot → Prop} (h : idxW P C t x ix σ Kl) : ∃ v i f, evIndexAddr P t x ix σ = some (v, f) ∧ Kl v i f := by
  unfold idxW at h
  split at h
  · rename_i hk
    split at h
    · obtain ⟨y, h1, h2, h3⟩ := h
      obtain ⟨h4, h5⟩ := onB_ok h3
      have h4 := of_decide_eq_true h4
      exact ⟨_, _, _, by unfold evIndexAddr; simp only [hk, h1, h2, if_true, h4, and_self], h5⟩
    · exact h.elim
  · rename_i hk
    obtain ⟨h1, h2, h3⟩ := h
    obtain ⟨h4, h5⟩ := onB_ok h3
    have h4 := of_decide_eq_true h4
    exact ⟨_, _, _, by unfold evIndexAddr; simp only [hk]; rw [if_pos ⟨h1, h2, h4⟩], h5⟩
  · rename_i hk
    obtain ⟨h1, h2, h3⟩ := h
    obtain ⟨h4, h5⟩ := onB_ok h3
    have h4 := of_decide_eq_true h4
    exact ⟨_, _, _, by unfold evIndexAddr; simp only [hk]; rw [if_pos ⟨h1, h2, h4⟩], h5⟩
  · obtain ⟨⟨v, f⟩, h1, h2⟩ := onO_ok h
    exact ⟨v, _, f, h1, h2⟩
theorem bnd_none (n : Nat) : bnd n none = some n := rfl
theorem bndW_ok {n : Nat} {b : Option D} {Kl : Nat → Prop} (h : bndW n b Kl) : ∃ k, bnd n b = some k ∧ Kl k := by
  unfold bndW at h
  split at h
  · exact ⟨_, rfl, h⟩
  · exact ⟨_, by unfold bnd; simp only; rw [if_pos h.1], h.2⟩
  · exact h.elim
theorem sliceW_ok {t : TypeId} {x : D} {lo hi mx : Option D} {Kl : D → Foot → Prop} (h : sliceW P t x lo hi mx σ Kl) : ∃ v f, evSlice P t x lo hi mx σ = some (v, f) ∧ Kl v f := by
  unfold sliceW at h
  split at h
  · rename_i hk
    split at h
    · obtain ⟨a, h1, h2⟩ := bndW_ok h
      obtain ⟨b, h3, h4⟩ := bndW_ok h2
      obtain ⟨h5, h6, h7⟩ := h4
      exact ⟨_, _, by unfold evSlice; simp only [hk, h1, h3, Option.isSome_none, Bool.false_eq_true, if_false]; rw [if_pos ⟨h5, h6⟩], h7⟩
    · exact h.elim
  · rename_i hk
    split at h
    · obtain ⟨a, h1, h2⟩ := bndW_ok h
      obtain ⟨b, h3, h4⟩ := bndW_ok h2
      obtain ⟨h5, h6, h7, h8⟩ := h4
      obtain ⟨h9, h10⟩ := onB_ok h8
      exact ⟨_, _, by unfold evSlice; simp only [hk, h1, h3, bnd_none, Option.isSome_none, Bool.false_eq_true, false_implies, if_false]; rw [if_pos ⟨h5, h6, Nat.le_refl _, trivial, of_decide_eq_true h9, h7⟩], h10⟩
    · exact h.elim
  · rename_i hk
    split at h
    · obtain ⟨a, h1, h2⟩ := bndW_ok h
      obtain ⟨b, h3, h4⟩ := bndW_ok h2
      obtain ⟨h5, h6, h8⟩ := h4
      obtain ⟨h9, h10⟩ := onB_ok h8
      have h9 := of_decide_eq_true h9
      exact ⟨_, _, by unfold evSlice; simp only [hk, h1, h3, bnd_none, Option.isSome_none, Bool.false_eq_true, false_implies, Bool.or_false]; rw [if_pos ⟨h5, h6, Nat.le_refl _, trivial, h9.1, h9.2⟩], h10⟩
    · exact h.elim
  · obtain ⟨⟨v, f⟩, h1, h2⟩ := onO_ok h
    exact ⟨v, f, h1, h2⟩
theorem makeW_ok {t : TypeId} {l c : D} {Kl : D → Store → Foot → Prop} (h : makeW P t l c aid σ Kl) : ∃ v s f, evMakeSlice P t l c aid σ = some (v, s, f) ∧ Kl v s f := by
  unfold makeW at h
  split at h
  · rename_i hk
    obtain ⟨h1, h2, h3, h4, h5⟩ := h
    obtain ⟨h6, h7⟩ := onB_ok h5
    have h6 := of_decide_eq_true h6
    exact ⟨_, _, _, by unfold evMakeSlice; simp only [hk]; rw [if_pos ⟨h1, h2, h3, h4, h6.1, h6.2.1, h6.2.2⟩], h7⟩
  · exact h.elim
theorem elemsW_ok {d : D} {Kl : List D → Prop} (h : elemsW σ d Kl) : ∃ xs f, elems σ d = some (xs, f) ∧ Kl xs := by
  unfold elemsW at h
  split at h
  · exact ⟨_, _, rfl, h⟩
  · exact ⟨_, _, rfl, h⟩
  · split at h
    · rename_i ho
      exact ⟨_, _, by unfold elems; simp only [ho]; rw [if_pos h.1], h.2⟩
    · exact h.elim
  · exact h.elim
theorem okEl_all {n : Nat} {xs : List D} : xs.all (okEl n) = xs.all (fun y => y.elem && y.cells.length == n) := rfl
theorem appMsW_ok {t : TypeId} {et : TypeId} (hk : (ti P t).k = .sl et) (hz : 0 < (ti P et).sz ∧ (ti P et).zero.elem = true ∧ (ti P et).zero.cells.length = (ti P et).sz) {x : D} {news : List D} {ft : Foot} (hx : elems σ x = some (news, ft)) (hall : news.all (okEl (ti P et).sz) = true)
    {id off len cap : Nat} {ex lit : Bool} {Kl : D → Store → Prop} (h : appMsW (ti P et).bytes (ti P et).sz id off len cap ex lit news aid σ Kl) : ∃ v s, evAppend P t (.ms id off len cap ex) x aid σ = some (v, s, .wrAll) ∧ Kl v s := by
  unfold appMsW at h
  split at h
  · rename_i esz xs ho
    obtain ⟨h1, h2, h3, h4⟩ := h
    obtain ⟨h5, h6⟩ := onB_ok h4
    have h5 := of_decide_eq_true h5
    have hin : len + news.length ≤ cap → evAppend P t (.ms id off len cap ex) x aid σ = some (.ms id off (len + news.length) cap ex, σ.put id (some (.row .own esz (xs.take (off + len) ++ news ++ xs.drop (off + len + news.length)))), .wrAll) := by
      intro hle
      unfold evAppend
      simp only [hk]
      rw [if_pos hz]
      simp only [hx]
      rw [← okEl_all, hall]
      simp only [if_true, ho]
      rw [if_pos ⟨h5, h1, h2, h3⟩, if_pos hle]
    have hgx : cap < len + news.length → ex = true → evAppend P t (.ms id off len cap ex) x aid σ = some (.ms aid 0 (len + news.length) (len + news.length) false, σ.put aid (some (.row .own esz ((xs.drop off).take len ++ news))), .wrAll) := by
      intro hlt h0
      unfold evAppend
      simp only [hk]
      rw [if_pos hz]
      simp only [hx]
      rw [← okEl_all, hall]
      simp only [if_true, ho]
      rw [if_pos ⟨h5, h1, h2, h3⟩, if_neg (by omega), if_pos h0]
    have hgr : cap < len + news.length → ex = false → off = 0 → evAppend P t (.ms id off len cap ex) x aid σ = some (.ms aid 0 (len + news.length) (len + news.length) false, (σ.put id Option.none).put aid (some (.row .own esz (xs.take len ++ news))), .wrAll) := by
      intro hlt hex h0
      unfold evAppend
      simp only [hk]
      rw [if_pos hz]
      simp only [hx]
      rw [← okEl_all, hall]
      simp only [if_true, ho]
      rw [if_pos ⟨h5, h1, h2, h3⟩, if_neg (by omega), if_neg (by simp [hex]), if_pos h0]
    split at h6
    · rcases Nat.lt_or_ge cap (len + news.length) with hc | hc
      · have h7 := h6.2 hc
        split at h7
        · exact ⟨_, _, hgx hc rfl, h7⟩
        · exact ⟨_, _, hgr hc rfl h7.1, h7.2⟩
      · exact ⟨_, _, hin hc, h6.1 hc⟩
    · rename_i hxl
      exact ⟨_, _, hgr h6.1 (by cases ex <;> simp_all) h6.2.1, h6.2.2⟩
  · exact h.elim
theorem appZW_ok {t : TypeId} {et : TypeId} (hk : (ti P t).k = .sl et) {s : D} {n : Int} {Kl : D → Store → Prop} (h : appZW P et s n aid σ Kl) : ∃ v s', evAppendZ P t s n aid σ = some (v, s', .wrAll) ∧ Kl v s' := by
  unfold appZW at h
  simp only at h
  split at h
  · rename_i id off len cap ex
    split at h
    · split at h
      · rename_i st esz xs ho
        obtain ⟨h1, h2, h3, h4, h5⟩ := onB_ok h
        have h1 := of_decide_eq_true h1
        refine ⟨_, _, ?_, h5⟩
        unfold evAppendZ
        simp only [hk, ho]
        rw [if_pos ⟨h1, h2, h3, h4⟩]
      · exact h.elim
    · exact h.elim
  · rename_i full xs
    split at h
    · obtain ⟨h1, h2, h3, h4, h5⟩ := onB_ok h
      have h1 := of_decide_eq_true h1
      refine ⟨_, _, ?_, h5⟩
      unfold evAppendZ
      simp only [hk]
      rw [if_pos ⟨h1, h2, h3, h4⟩]
    · exact h.elim
  · exact h.elim
theorem appSlW_ok {t : TypeId} {et : TypeId} (hk : (ti P t).k = .sl et) (hz : 0 < (ti P et).sz ∧ (ti P et).zero.elem = true ∧ (ti P et).zero.cells.length = (ti P et).sz) {x : D} {news : List D} {ft : Foot} (hx : elems σ x = some (news, ft)) (hall : news.all (okEl (ti P et).sz) = true)
    {full : Bool} {xs : List D} {Kl : D → Store → Prop} (h : appSlW (ti P et).bytes (ti P et).sz full xs news aid σ Kl) : ∃ v s, evAppend P t (.sl full xs) x aid σ = some (v, s, .wrAll) ∧ Kl v s := by
  unfold appSlW at h
  by_cases hn : news = []
  · refine ⟨_, _, ?_, h.1 hn⟩
    unfold evAppend
    simp only [hk]
    rw [if_pos hz]
    simp only [hx]
    rw [← okEl_all, hall]
    simp only [if_true]
    rw [if_pos hn]
  · obtain ⟨h1, h2, h3, h4⟩ := h.2 hn
    refine ⟨_, _, ?_, h4⟩
    unfold evAppend
    simp only [hk]
    rw [if_pos hz]
    simp only [hx]
    rw [← okEl_all, hall]
    simp only [if_true]
    rw [if_neg hn, if_pos ⟨h1, by rw [← okEl_all]; exact h2, h3⟩]
theorem callW_ok (hC : SpecsOk P C) {c : Call} (ho : o.op = .call c) (h : callW P C o e L aid σ c K) : OpGo P C o e aid σ K := by
  obtain ⟨dst, op, type, pos, after, guard⟩ := o
  simp only at ho
  subst ho
  obtain ⟨callee, args, ats⟩ := c
  have ngo : ∀ b, callee = .builtin b → isGo (⟨dst, .call ⟨callee, args, ats⟩, type, pos, after, guard⟩ : Oper) = false := by rintro b rfl; rfl
  unfold callW at h
  split at h
  · rename_i f hce
    simp only at hce
    subst hce
    split at h
    · rename_i g as hev
      have hstep : ∀ {r σ'}, CS C g as σ = some (r, σ') → step P (CS C) (⟨dst, .call ⟨.value f, args, ats⟩, type, pos, after, guard⟩ : Oper) e aid σ = some (r, σ', .call (as.flatMap fun d => (lend σ d).2)) := by
        intro r σ' hr
        rw [step_go rfl, hev]
        simp only [hr]
      split at h
      · rename_i hb
        split at h
        · rename_i p r σ' hsp
          refine ⟨r, .no, σ', .call (as.flatMap fun d => (lend σ d).2), L, hstep ?_, h.2⟩
          unfold CS callD
          have hp : C.M.prim g = none := rfl
          simp only [hp, show C.M.byref g = true from hb, if_true]
          have hrun : runS C g as σ = some (r, σ') := by
            unfold runS
            rw [hb]
            simp only [hsp]
            rw [if_pos h.1]
          rw [hrun]
          split
          · rename_i hro
            rw [hC.ro _ _ _ _ _ _ hb hro hsp]; rfl
          · rfl
        · exact h.elim
      · rename_i hb
        have h := lendsW_ok h
        obtain ⟨hfree, h⟩ := onB_ok h
        split at h
        · rename_i oo hsp
          obtain ⟨hpre, h⟩ := h
          obtain ⟨σ', h1, h2⟩ := onO_ok h
          refine ⟨oo.r, .no, σ', .call (as.flatMap fun d => (lend σ d).2), L, hstep ?_, h2⟩
          unfold CS callD
          have hp : C.M.prim g = none := rfl
          simp only [hp, show C.M.byref g = false from hb, Bool.false_eq_true, if_false, hfree, if_true]
          have hrun : runS C g (as.map fun d => (lend σ d).1) [] = some (oo.r, []) := by
            unfold runS
            rw [hb]
            simp only [hsp]
            rw [if_pos ⟨hpre, rfl⟩]
          simp only [hrun, (hC.data _ _ _ hsp hpre).1, h1]
          rfl
        · exact h.elim
    · exact h.elim
  · rename_i hce
    simp only at hce
    have hg := ngo _ hce
    subst hce
    split at h
    · rename_i t t2 s x ht ha
      simp only at ht ha
      unfold appendW at h
      split at h
      · rename_i e2 et hk2 hk
        simp only at h
        obtain ⟨hz, h⟩ := onB_ok h
        have hz := of_decide_eq_true hz
        have hev : evOp P (⟨dst, .call ⟨.builtin .append, args, ats⟩, type, pos, after, guard⟩ : Oper) e aid σ = evAppend P t (opnd e s) (opnd e x) aid σ := by
          simp only [evOp, evBuiltin, ht, ha, List.map_cons, List.map_nil, hk2]
        split at h
        · rename_i hs _
          obtain ⟨⟨nw, ft⟩, h1, h2⟩ := onO_ok h
          obtain ⟨h3, h4⟩ := onB_ok h2
          obtain ⟨v, s', h5, h6⟩ := appMsW_ok hk hz h1 h3 h4
          rw [← hs] at h5
          exact .of hg (by rw [hev]; exact h5) h6
        · rename_i hs _
          obtain ⟨news, ft, h1, h2⟩ := elemsW_ok h
          obtain ⟨v, s', h5, h6⟩ := appMsW_ok hk hz h1 h2.1 h2.2
          rw [← hs] at h5
          exact .of hg (by rw [hev]; exact h5) h6
        · rename_i hs _
          obtain ⟨news, ft, h1, h2⟩ := elemsW_ok h
          obtain ⟨v, s', h5, h6⟩ := appSlW_ok hk hz h1 h2.1 h2.2
          rw [← hs] at h5
          exact .of hg (by rw [hev]; exact h5) h6
        · obtain ⟨⟨v, s', f⟩, h1, h2⟩ := onO_ok h
          exact .of hg h1 h2
      · rename_i kn et hk2 hk
        split at h
        · rename_i kq n hx
          obtain ⟨v, s', h5, h6⟩ := appZW_ok hk h
          refine .of hg ?_ h6
          simp only [evOp, evBuiltin, ht, ha, List.map_cons, List.map_nil, hk2, hx]
          exact h5
        · exact h.elim
      · exact h.elim
    · exact h.elim
  · rename_i hce
    simp only at hce
    have hg := ngo _ hce
    subst hce
    split at h
    · rename_i t t2 s x ht ha
      simp only at ht ha
      unfold copyW at h
      split at h
      · rename_i et id off len cap ex hk hs
        obtain ⟨news, ft, h1, h2⟩ := elemsW_ok h
        split at h2
        · rename_i esz xs ho
          obtain ⟨h3, h4, h5, h6⟩ := onB_ok h2
          refine .of hg ?_ h6
          simp only [evOp, evBuiltin, ht, ha, List.map_cons, List.map_nil, hs]
          unfold evCopy
          simp only [hk, h1, ho]
          rw [if_pos ⟨of_decide_eq_true h3, h4, by rw [← okEl_all]; exact h5⟩]
        · exact h2.elim
      · exact h.elim
    · exact h.elim
  · rename_i hce
    simp only at hce
    have hg := ngo _ hce
    subst hce
    split at h
    · rename_i t s ht ha
      simp only at ht ha
      unfold clearW at h
      split at h
      · rename_i et id off len cap ex hk hs
        split at h
        · rename_i esz xs ho
          obtain ⟨h3, h4, h5⟩ := onB_ok h
          have h3 := of_decide_eq_true h3
          refine .of hg ?_ h5
          simp only [evOp, evBuiltin, ht, ha, List.map_cons, List.map_nil, hs]
          unfold evClear
          simp only [hk, ho]
          rw [if_pos ⟨h3.1, h4, h3.2.1, h3.2.2⟩]
        · exact h.elim
      · exact h.elim
    · exact h.elim
  · rename_i h1 h2 h3 h4
    refine genW_ok ?_ h
    unfold isGo
    split
    · rename_i heq
      injection heq with heq
      injection heq with e1
      exact absurd e1 (h1 _)
    · rfl
theorem wpOp1_ok (hC : SpecsOk P C) (h : wpOp1 P C o e L aid σ K) : OpGo P C o e aid σ K := by
  unfold wpOp1 at h
  split at h
  · rename_i x ho; exact .of (by unfold isGo; rw [ho]) (by unfold evOp; rw [ho]) h
  · rename_i x ho; exact .of (by unfold isGo; rw [ho]) (by unfold evOp; rw [ho]) h
  · rename_i c a b ho
    split at h
    · rename_i d
      split at h
      · rename_i t hc
        obtain ⟨L', h1⟩ := askW_ok hc h
        cases t with
        | true => exact .of (by unfold isGo; rw [ho]) (by unfold evOp; rw [ho]; simp only [opnd, hc]; rfl) h1
        | false => exact .of (by unfold isGo; rw [ho]) (by unfold evOp; rw [ho]; simp only [opnd, hc]; rfl) h1
      · exact h.elim
    · exact genW_ok (by unfold isGo; rw [ho]) h
  · rename_i op t x y ty ho
    split at h
    · rename_i hn
      obtain ⟨v, h1, h2⟩ := wpNil_ok h
      exact .of (by unfold isGo; rw [ho]) (by unfold evOp; rw [ho]; simp only [evBinO, hn, h1]; rfl) h2
    · rename_i hn
      obtain ⟨v, h1, h2⟩ := wpBin_ok h
      exact .of (by unfold isGo; rw [ho]) (by unfold evOp; rw [ho]; simp only [evBinO, hn, h1]; rfl) h2
  · rename_i ho; exact genW_ok (by unfold isGo; rw [ho]) h
  · rename_i s t x ho
    split at h
    · rename_i k k' n hk hx
      obtain ⟨h1, h2⟩ := onB_ok h
      exact .of (by unfold isGo; rw [ho]) (by unfold evOp; rw [ho]; simp only [evConv, hk, hx, h1]; rfl) (wpInt_ok h2)
    · exact genW_ok (by unfold isGo; rw [ho]) h
  · rename_i t a ho
    obtain ⟨v, f, h1, h2⟩ := loadW_ok h
    exact .of (by unfold isGo; rw [ho]) (by unfold evOp; rw [ho]; simp only [h1]; rfl) h2
  · rename_i t a x ho
    obtain ⟨v, f, h1, h2⟩ := storeW_ok h
    exact .of (by unfold isGo; rw [ho]) (by unfold evOp; rw [ho]; simp only [h1]; rfl) h2
  · rename_i t x ix ho
    obtain ⟨v, i, f, h1, h2⟩ := idxW_ok h
    exact .of (by unfold isGo; rw [ho]) (by unfold evOp; rw [ho]; simp only [h1]; rfl) h2
  · rename_i t x ix ho
    split at h
    · rename_i s k n hk hx hi
      obtain ⟨b, h1, h2, h3⟩ := h
      exact .of (by unfold isGo; rw [ho]) (by unfold evOp; rw [ho]; simp only [evIndex, hk, hx, hi, h1, h2, if_true]; rfl) h3
    · exact genW_ok (by unfold isGo; rw [ho]) h
  · rename_i x ix ho
    have same : ∀ v s f, evOp P o e aid σ = some (v, s, f) → s = σ ∧ f = .none := by
      intro v s f hh
      unfold evOp at hh
      rw [ho] at hh
      simp only at hh
      split at hh
      · split at hh
        · injection hh with hh; injection hh with _ hh; injection hh with h1 h2; exact ⟨h1.symm, h2.symm⟩
        · cases hh
      · cases hh
    split at h
    · rename_i k n s f hh
      obtain ⟨rfl, rfl⟩ := same _ _ _ hh
      exact .of (by unfold isGo; rw [ho]) hh (wpName_ok h)
    · rename_i v s f _ hh
      obtain ⟨rfl, rfl⟩ := same _ _ _ hh
      exact .of (by unfold isGo; rw [ho]) hh h
    · exact h.elim
  · rename_i ho; exact genW_ok (by unfold isGo; rw [ho]) h
  · rename_i ho; exact genW_ok (by unfold isGo; rw [ho]) h
  · rename_i t l c ho
    obtain ⟨v, s, f, h1, h2⟩ := makeW_ok h
    exact .of (by unfold isGo; rw [ho]) (by unfold evOp; rw [ho]; exact h1) h2
  · rename_i t x lo hi mx ho
    obtain ⟨v, f, h1, h2⟩ := sliceW_ok h
    exact .of (by unfold isGo; rw [ho]) (by unfold evOp; rw [ho]; simp only [h1]; rfl) h2
  · rename_i c ho; exact callW_ok hC ho h
  · rename_i ho
    refine genW_ok ?_ h
    unfold isGo
    split
    · rename_i heq; exact absurd heq (by intro hh; first | exact ho _ hh | simp_all)
    · rfl
theorem wpOp_ok (hC : SpecsOk P C) (h : wpOp P C o e L aid σ K) : OpGo P C o e aid σ K := by
  unfold wpOp at h
  split at h
  · rename_i hg
    rw [Bool.and_eq_true] at hg
    refine genW_ok ?_ h
    have := hg.2
    unfold notGo at this
    unfold isGo
    obtain ⟨dst, op, type, pos, after, guard⟩ := o
    simp only at this ⊢
    cases op with
    | call c =>
      obtain ⟨callee, as, ats⟩ := c
      cases callee <;> first | rfl | (cases this)
    | _ => rfl
  · exact wpOp1_ok hC h
end
end Go.Proofs.Ytgibpomhiilehaa.Dv
