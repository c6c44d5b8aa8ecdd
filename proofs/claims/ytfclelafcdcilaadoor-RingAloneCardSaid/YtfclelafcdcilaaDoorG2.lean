/- What is computed whole, with the library's insertions known. -/
import Derived.Test.YtfclelafcdcilaaDoorG3
set_option linter.unusedVariables false
set_option linter.unusedSimpArgs false
namespace Go.Proofs.YtfclelafcdcilaaDoor.Dv
open Go Go.Proofs
def insB (esz bytes : Nat) (vs : List D) (σ : Store) : Option (D × Store) := match vs with
  | [.ms id 0 n cap ex, .int .i64 i, .ms v 0 1 1 true] => match decide (id = v) with
    | true => none
    | false => match σ.obj id, σ.obj v with
      | some (.row .own e xs), some (.row .own e' ys) => match ys with
        | [y] => if (e = esz ∧ e' = esz) ∧ 0 ≤ i ∧ i ≤ n ∧ xs.length = n ∧ (xs.all D.pure = true ∧ y.pure = true) ∧ (xs.all (okEl esz) = true ∧ okEl esz y = true) ∧ (n + 1) * max bytes 1 ≤ 140737488355328 then
            some (.ms σ.length 0 (n + 1) (n + 1) false, σ.put id none ++ [some (.row .own esz (xs.take i.toNat ++ y :: xs.drop i.toNat))]) else none
        | _ => none
      | _, _ => none
  | [.sl true [], .int .i64 i, .ms v 0 1 1 true] => match σ.obj v with
    | some (.row .own e ys) => match ys with
      | [y] => if e = esz ∧ i = 0 ∧ y.pure = true ∧ okEl esz y = true ∧ 1 * max bytes 1 ≤ 140737488355328 then some (.ms σ.length 0 1 1 false, σ ++ [some (.row .own esz [y])]) else none
      | _ => none
    | _ => none
  | _ => none
theorem insB_ok {esz bytes : Nat} {vs : List D} {σ : Store} {r : D} {σ' : Store} (h : insB esz bytes vs σ = some (r, σ')) : ∃ p, insS esz bytes vs σ = some (p, r, σ') ∧ p := by
  unfold insB at h
  unfold insS
  split at h
  · split at h
    · cases h
    · rename_i hne
      simp only [hne]
      split at h
      · rename_i ho hv
        simp only [ho, hv]
        split at h
        · split at h
          · rename_i hc
            injection h with h; injection h with h1 h2; subst h1 h2
            refine ⟨_, ?_, hc.2⟩
            simp only [onO2]
            rw [decide_eq_true hc.1]
          · cases h
        · cases h
      · cases h
  · split at h
    · rename_i hv
      simp only [hv]
      split at h
      · split at h
        · rename_i hc
          injection h with h; injection h with h1 h2; subst h1 h2
          refine ⟨_, ?_, hc.2⟩
          simp only [onO2]
          rw [decide_eq_true hc.1]
        · cases h
      · cases h
    · cases h
  · cases h
structure Prim where
  f : FuncId
  p : CallF
  ok : ∀ vs σ r σ', p f vs σ = some (r, σ') → RefFun Tryd.prog f vs σ r σ'
theorem prim_ins {c : RCtr} {esz bytes : Nat} (h : c.s = insS esz bytes) : ∀ vs σ r σ', (fun (_ : FuncId) vs σ => insB esz bytes vs σ) c.f vs σ = some (r, σ') → RefFun Tryd.prog c.f vs σ r σ' := by
  intro vs σ r σ' hp
  obtain ⟨q, h1, h2⟩ := insB_ok hp
  exact c.ok _ _ _ _ _ (by rw [h]; exact h1) h2
theorem prim_clone {c : RCtr} {esz bytes : Nat} (h : c.s = cloneS esz bytes) : ∀ vs σ r σ', (fun (_ : FuncId) vs σ => cloneB esz bytes vs σ) c.f vs σ = some (r, σ') → RefFun Tryd.prog c.f vs σ r σ' := by
  intro vs σ r σ' hp
  obtain ⟨q, h1, h2⟩ := cloneB_ok hp
  exact c.ok _ _ _ _ _ (by rw [h]; exact h1) h2
def primL : List Prim := [










  ]
def primOf (f : FuncId) : List Prim → Option CallF
  | [] => none
  | c :: l => match c.f == f with
    | true => some c.p
    | false => primOf f l
theorem primOf_ok {f : FuncId} {p : CallF} : ∀ {l : List Prim}, primOf f l = some p → ∀ vs σ r σ', p f vs σ = some (r, σ') → RefFun Tryd.prog f vs σ r σ'
  | [], h => by cases h
  | c :: l, h => by
    unfold primOf at h
    split at h
    · rename_i hf
      injection h with h
      subst h
      have := eq_of_beq hf
      subst this
      exact c.ok
    · exact primOf_ok h
noncomputable def M2 : Modes := { M1 with prim := fun f => primOf f primL }
noncomputable def goodAt2 (f : Nat) : Bool := badL.contains f || match Tryd.prog.funcs[f]? with | some fn => goodFn M2 fn | none => true
theorem good_all2 : ((List.range (65 - 2)).all fun f => goodAt2 (f + 2)) = true := by kernel_rfl
set_option maxRecDepth 100000 in
theorem goodM2 : GoodM Tryd.prog M2 := by
  intro f fn h hf
  have h0 : (decide (2 ≤ f) && decide (f < 65) && !badL.contains f) = true := h
  rw [Bool.and_eq_true, Bool.and_eq_true] at h0
  have h1 := of_decide_eq_true h0.1.1
  have hlt : f - 2 < 65 - 2 := by have := of_decide_eq_true h0.1.2; simp only [FuncId] at *; omega
  have := List.all_eq_true.1 good_all2 (f - 2) (List.mem_range.2 hlt)
  rw [show f - 2 + 2 = f from Nat.sub_add_cancel h1] at this
  have hb : badL.contains f = false := (Bool.not_eq_true' _).mp h0.2
  unfold goodAt2 at this
  rw [hb, hf] at this
  exact this
theorem primM2 : PrimOk Tryd.prog M2 := by
  refine ⟨fun _ _ => rfl, ?_⟩
  intro f p h vs σ r σ' Γ w vargs hp hs hr
  exact primOf_ok (l := primL) h vs σ r σ' hp Γ w vargs hs hr
/-- A function that hands out true, computed whole. -/
def awakeC2 (f : FuncId) (h : (((runN Tryd.prog M2 60).1 f [] []).bind fun q => frz 0 q.2 q.1) = some (.bool true)) : Ctr := ⟨f, fun vs => match vs with | [] => some ⟨True, .bool true⟩ | _ => none, by
  intro vs o ho _
  split at ho
  · injection ho with ho; subst ho; exact dataFun_run goodM2 primM2 mix 60 rfl h
  · cases ho⟩



def aw23 : Ctr := awakeC2 8 (by kernel_rfl)

end Go.Proofs.YtfclelafcdcilaaDoor.Dv
