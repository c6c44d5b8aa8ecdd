/- Each operation of the evaluator is the machine's: slice expressions, operators, conversions, literals; all together. -/
import Derived.Test.YtgibpomhiilehaaDvVal
set_option linter.unusedVariables false
set_option linter.unusedSimpArgs false
namespace Go.Proofs.Ytgibpomhiilehaa.Dv
open Go

section
variable {P : Program} {Γ Γ' : Ctx} {w w' : World} {σ σ' : Store}

/-! ### slice expressions -/
theorem sliceBounds_eq (isSl : Bool) (len c : Nat) (vlo vhi vmx : Option Value) : Instr.sliceBounds isSl len c vlo vhi vmx =
    (match vmx with | some v => Instr.sliceBound v c (if isSl = true then .slice3Acap else .slice3Alen) | none => (pure c : Sem Nat)) >>= fun m =>
      (match vhi, vmx with
      | some v, some _ => Instr.sliceBound v m .slice3B
      | some v, none => Instr.sliceBound v m (if isSl = true then .sliceAcap else .sliceAlen)
      | none, none => (pure len : Sem Nat)
      | none, some _ => stuck "Slice: max without high") >>= fun h =>
      (match vlo with | some v => Instr.sliceBound v h (if vmx.isSome = true then .slice3C else .sliceB) | none => (pure 0 : Sem Nat)) >>= fun l => pure (l, h, m) := by
  cases vmx <;> cases vhi <;> cases vlo <;> rfl
theorem bounds_run {isSl : Bool} {len c M h l : Nat} {lo hi mx : Option D} {vlo vhi vmx : Option Value} (rlo : OptR Γ w lo vlo) (rhi : OptR Γ w hi vhi) (rmx : OptR Γ w mx vmx)
    (hh : bnd len hi = some h) (hl : bnd 0 lo = some l) (h1 : l ≤ h) (h2 : h ≤ M) (h3 : M ≤ c) (hm0 : mx = none → M = c) (hm1 : mx.isSome = true → bnd c mx = some M ∧ hi.isSome = true) :
    (Instr.sliceBounds isSl len c vlo vhi vmx).run P w = .ok (l, h, M) w := by
  have em : (match vmx with | some v => Instr.sliceBound v c (if isSl = true then .slice3Acap else .slice3Alen) | none => (pure c : Sem Nat)).run P w = .ok M w := by
    cases mx with
    | none =>
      cases vmx with
      | none => rw [hm0 rfl]; rfl
      | some v => exact rmx.elim
    | some d => exact bound_run (dflt := c) rmx (hm1 rfl).1 h3 (.inl (Nat.le_refl _))
  have el : ∀ code, (match vlo with | some v => Instr.sliceBound v h code | none => (pure 0 : Sem Nat)).run P w = .ok l w := fun code => bound_run (dflt := 0) rlo hl h1 (.inl (Nat.zero_le _))
  have eh : (match vhi, vmx with
      | some v, some _ => Instr.sliceBound v M .slice3B
      | some v, none => Instr.sliceBound v M (if isSl = true then .sliceAcap else .sliceAlen)
      | none, none => (pure len : Sem Nat)
      | none, some _ => stuck "Slice: max without high").run P w = .ok h w := by
    cases hi with
    | none =>
      cases vhi with
      | some v => exact rhi.elim
      | none =>
        simp only [bnd, Option.some.injEq] at hh
        subst hh
        cases vmx with
        | none => rfl
        | some v =>
          cases mx with
          | none => exact rmx.elim
          | some d => have := (hm1 rfl).2; cases this
    | some d =>
      cases vhi with
      | none => exact rhi.elim
      | some v =>
        cases vmx with
        | none => exact bound_run (dflt := len) (v := some v) rhi hh h2 (.inr rfl)
        | some v' => exact bound_run (dflt := len) (v := some v) rhi hh h2 (.inr rfl)
  rw [sliceBounds_eq, Sem.run_bind, em, Result.andThen_ok, Sem.run_bind, eh, Result.andThen_ok, Sem.run_bind, el, Result.andThen_ok]
  rfl
theorem opt_none {o : Option D} {v : Option Value} (h : OptR Γ w o v) : o.isSome = v.isSome := by
  cases o <;> cases v <;> first | rfl | exact h.elim
theorem bnd_some {d d' : Nat} {o : Option D} (h : o.isSome = true) : bnd d o = bnd d' o := by
  cases o with
  | none => cases h
  | some x => cases x <;> rfl
theorem slice_ok (hs : SR Γ σ w) {t : TypeId} {x : D} {u : Value} {lo hi mx : Option D} {vlo vhi vmx : Option Value} {r : D × Foot} (hx : R1 Γ w x u) (rlo : OptR Γ w lo vlo) (rhi : OptR Γ w hi vhi) (rmx : OptR Γ w mx vmx)
    (h : evSlice P t x lo hi mx σ = some r) : ∃ z, (Instr.sliceAt t u vlo vhi vmx).run P w = .ok z w ∧ R1 Γ w r.1 z := by
  unfold evSlice at h
  split at h
  · rename_i s hk
    split at h
    · cases h
    · rename_i hm
      split at h
      · rename_i hh ll hbh hbl
        split at h
        · rename_i hc
          injection h with h
          subst h
          obtain ⟨h1, h2⟩ := hc
          rw [R1.str.1 hx]
          have hu := tk_str hk
          have hmx : mx = none := by cases mx <;> simp_all
          subst hmx
          have hvm : vmx = none := by cases vmx with
            | none => rfl
            | some _ => exact rmx.elim
          subst hvm
          have hb := bounds_run (P := P) (Γ := Γ) (w := w) (isSl := false) (mx := none) (vmx := none) (c := s.size) (M := s.size) rlo rhi trivial hbh hbl h1 h2 (Nat.le_refl _) (fun _ => rfl) (fun h => by cases h)
          exact ⟨.string (s.extract ll hh), by simp [Instr.sliceAt, Instr.slice, run_underlying hu, hb], R1.str.2 rfl⟩
        · cases h
      · cases h
  · rename_i e full xs hk
    split at h
    · rename_i mm hh ll hbm hbh hbl
      split at h
      · rename_i hc
        injection h with h
        subst h
        obtain ⟨h1, h2, h3, h4, hz, hall⟩ := hc
        obtain ⟨a, c, sz, us, rfl, hp, hn, hcm, hf, hr, hz', had⟩ := R1.sl.1 hx
        have hu := tk_sl hk
        obtain ⟨inf, hinf⟩ := info_of_sz hz
        have hsz := ti_sz hinf
        -- the machine's third bound
        obtain ⟨M, hM1, hM2, hM3, hM4, hM5⟩ : ∃ M, hh ≤ M ∧ M ≤ c ∧ (mx = none → M = c) ∧ (mx.isSome = true → bnd c mx = some M ∧ hi.isSome = true) ∧ (mx.isSome = true → M = mm) := by
          cases mx with
          | none => exact ⟨c, by simp [bnd] at hbm; omega, Nat.le_refl _, fun _ => rfl, (fun h => by cases h), fun h => by cases h⟩
          | some d => exact ⟨mm, h2, by omega, (fun h => by cases h), fun _ => ⟨by rw [bnd_some (d' := xs.length) rfl]; exact hbm, h4 rfl⟩, fun _ => rfl⟩
        have hb := bounds_run (P := P) (isSl := true) rlo rhi rmx hbh hbl h1 hM1 hM2 hM3 hM4
        have hlen : ((xs.take hh).drop ll).length = hh - ll := by rw [List.length_drop, List.length_take]; omega
        have hr1 := ((hr.takeE hh (by omega)).1.takeE ll (by rw [List.length_take]; omega)).2
        refine ⟨_, by simp [Instr.sliceAt, Instr.slice, run_underlying hu, hb, run_sizeOf hinf]; rfl, ?_⟩
        rw [show hh - ll = ((xs.take hh).drop ll).length from hlen.symm]
        refine R1.sl.2 ⟨_, _, sz, _, rfl, ?_, by rw [hlen]; omega, by omega, fun hfl => ?_, hr1, hz', fun hne => ?_⟩
        · simp only [List.all_eq_true] at hp ⊢
          exact fun y hy => hp y (List.mem_of_mem_take (List.mem_of_mem_drop hy))
        · rw [hlen]
          split at hfl
          · rename_i hms
            simp only [decide_eq_true_eq] at hfl
            rw [hM5 hms]; omega
          · rename_i hms
            simp only [Bool.and_eq_true, decide_eq_true_eq] at hfl
            have hmx : mx = none := by cases mx <;> simp_all
            rw [hM3 hmx, hf hfl.1]; omega
        · have hpos : 0 < hh - ll := by
            rw [← hlen]
            cases hq : (xs.take hh).drop ll with
            | nil => exact absurd hq hne
            | cons _ _ => simp
          obtain ⟨b, o, rfl, hC, hcell⟩ := had (fun e => by rw [e] at h3; simp at h3; omega)
          have hsz2 : sz = inf.size := by
            cases hq : (xs.take hh).drop ll with
            | nil => exact absurd hq hne
            | cons y ys =>
              rw [hq] at hr1 hall
              have := (hr1.elemE.1 y (by simp)).2
              simp only [List.all_cons, Bool.and_eq_true, beq_iff_eq] at hall
              omega
          refine ⟨b, o + ll * inf.size, by rw [if_neg (by omega)]; simp [Addr.add_lit], hC, fun k u hu => ?_⟩
          rw [List.getElem?_drop, List.getElem?_take] at hu
          split at hu
          · rw [Nat.add_assoc, ← hsz2]
            exact hcell _ u hu
          · cases hu
      · cases h
    · cases h
  · rename_i e id off len cap ex hk
    split at h
    · rename_i mm hh ll hbm hbh hbl
      split at h
      · rename_i hc
        injection h with h
        subst h
        obtain ⟨h1, h2, h3, h4, hz, hez⟩ := hc
        obtain ⟨hA, a, c, rfl, c1, c2, c3, c4, c5, c6⟩ := R1.ms.1 hx
        have hu := tk_sl hk
        obtain ⟨inf, hinf⟩ := info_of_sz hz
        have hsz := ti_sz hinf
        obtain ⟨hzz, _⟩ := esz_row hs hez
        obtain ⟨M, hM1, hM2, hM3, hM4, hM5⟩ : ∃ M, hh ≤ M ∧ M ≤ c ∧ (mx = none → M = c) ∧ (mx.isSome = true → bnd c mx = some M ∧ hi.isSome = true) ∧ (mx.isSome = true → M = mm) := by
          cases mx with
          | none => exact ⟨c, by simp [bnd] at hbm; omega, Nat.le_refl _, fun _ => rfl, (fun h => by cases h), fun h => by cases h⟩
          | some d => exact ⟨mm, h2, by omega, (fun h => by cases h), fun _ => ⟨by rw [bnd_some (d' := cap) rfl]; exact hbm, h4 rfl⟩, fun _ => rfl⟩
        have hb := bounds_run (P := P) (isSl := true) rlo rhi rmx hbh hbl h1 hM1 hM2 hM3 hM4
        have hmM : mm ≤ M := by
          cases mx with
          | none => simp only [bnd, Option.some.injEq] at hbm; rw [hM3 rfl]; omega
          | some d => rw [hM5 rfl]; exact Nat.le_refl _
        refine ⟨_, by simp [Instr.sliceAt, Instr.slice, run_underlying hu, hb, run_sizeOf hinf]; rfl, ?_⟩
        refine R1.ms.2 ⟨hA, _, _, rfl, by omega, by omega, fun hex => ?_, ?_, ?_, by omega⟩
        · simp only [Bool.or_eq_true] at hex
          rcases hex with hex | hex
          · cases mx with
            | none => simp only [bnd, Option.some.injEq] at hbm; rw [hM3 rfl, c3 hex]; omega
            | some d => rw [hM5 rfl]
          · rw [hM5 hex]
        · by_cases hMl : M = ll
          · exact .inl (by omega)
          · refine .inr ?_
            have ha := c4.resolve_left (by omega)
            rw [if_neg hMl, ha]
            simp [adr, Addr.add_lit, hzz, ← hsz, Nat.add_mul]
        · refine Nat.le_trans (Nat.mul_le_mul_right _ ?_) c5
          omega
      · cases h
    · cases h
  · cases h

/-! ### operators -/
theorem kind_ne {k : IntKind} : (k = k) = True := eq_self k
theorem binInt_ok {op : BinOp} {k : IntKind} {a b : Int} {v : D} {t : TypeId} (hsh : op ≠ .shl ∧ op ≠ .shr) (h : binInt op k a b = some v) : ∃ z, (binOp op t (.int k a) (.int k b)).run P w = .ok z w ∧ R1 Γ w v z := by
  cases op <;> simp only [binInt] at h <;> try (cases h; done)
  case add => injection h with h; subst h; exact ⟨.int k (k.wrap (a + b)), by simp [binOp, Op.intArith], R1.int.2 rfl⟩
  case sub => injection h with h; subst h; exact ⟨.int k (k.wrap (a - b)), by simp [binOp, Op.intArith], R1.int.2 rfl⟩
  case mul => injection h with h; subst h; exact ⟨.int k (k.wrap (a * b)), by simp [binOp, Op.intArith], R1.int.2 rfl⟩
  case quo =>
    by_cases hb : b = 0
    · simp [hb] at h
    · rw [if_neg hb] at h; injection h with h; subst h; exact ⟨.int k (k.wrap (a.tdiv b)), by simp [binOp, Op.intDiv, hb], R1.int.2 rfl⟩
  case rem =>
    by_cases hb : b = 0
    · simp [hb] at h
    · rw [if_neg hb] at h; injection h with h; subst h; exact ⟨.int k (a.tmod b), by simp [binOp, Op.intDiv, hb], R1.int.2 rfl⟩
  case and => injection h with h; subst h; exact ⟨.int k (k.wrap (BitVec.ofInt k.bits a &&& BitVec.ofInt k.bits b).toNat), by simp [binOp, Op.intBits], R1.int.2 rfl⟩
  case or => injection h with h; subst h; exact ⟨.int k (k.wrap (BitVec.ofInt k.bits a ||| BitVec.ofInt k.bits b).toNat), by simp [binOp, Op.intBits], R1.int.2 rfl⟩
  case xor => injection h with h; subst h; exact ⟨.int k (k.wrap (BitVec.ofInt k.bits a ^^^ BitVec.ofInt k.bits b).toNat), by simp [binOp, Op.intBits], R1.int.2 rfl⟩
  case eql => injection h with h; subst h; exact ⟨.bool (decide (a = b)), by simp [binOp, Op.intCmp]; rfl, R1.bool.2 rfl⟩
  case neq => injection h with h; subst h; exact ⟨.bool (decide (a ≠ b)), by simp [binOp, Op.intCmp]; rfl, R1.bool.2 rfl⟩
  case lss => injection h with h; subst h; exact ⟨.bool (decide (a < b)), by simp [binOp, Op.intCmp], R1.bool.2 rfl⟩
  case leq => injection h with h; subst h; exact ⟨.bool (decide (a ≤ b)), by simp [binOp, Op.intCmp], R1.bool.2 rfl⟩
  case gtr => injection h with h; subst h; exact ⟨.bool (decide (b < a)), by simp [binOp, Op.intCmp], R1.bool.2 rfl⟩
  case geq => injection h with h; subst h; exact ⟨.bool (decide (b ≤ a)), by simp [binOp, Op.intCmp], R1.bool.2 rfl⟩
theorem shInt_ok {op : BinOp} {k k' : IntKind} {a b : Int} {v : D} {t : TypeId} (hsh : op = .shl ∨ op = .shr) (h : shInt op k a b = some v) : ∃ z, (binOp op t (.int k a) (.int k' b)).run P w = .ok z w ∧ R1 Γ w v z := by
  unfold shInt at h
  by_cases hb : b < 0
  · simp [hb] at h
  · rw [if_neg hb] at h
    rcases hsh with rfl | rfl
    · simp only at h; injection h with h; subst h; exact ⟨.int k (k.wrap (a * 2 ^ (min b.toNat k.bits))), by simp [binOp, Op.shift, hb], R1.int.2 rfl⟩
    · simp only at h; injection h with h; subst h; exact ⟨.int k (a.fdiv (2 ^ (min b.toNat k.bits))), by simp [binOp, Op.shift, hb], R1.int.2 rfl⟩
theorem toList_eq (a b : ByteArray) : (a.toList == b.toList) = decide (a = b) := by
  by_cases h : a = b
  · subst h; simp
  · simp only [h, decide_false, beq_eq_false_iff_ne, ne_eq]
    intro e
    apply h
    rw [ByteArray.toList_eq, ByteArray.toList_eq] at e
    cases a; cases b
    simp at e
    simp [e]
theorem dataList_eq (a b : ByteArray) : (a.data.toList == b.data.toList) = decide (a = b) := by rw [← ByteArray.toList_eq, ← ByteArray.toList_eq]; exact toList_eq a b
theorem binStr_ok {op : BinOp} {a b : ByteArray} {v : D} {t : TypeId} (h : binStr op a b = some v) : ∃ z, (binOp op t (.string a) (.string b)).run P w = .ok z w ∧ R1 Γ w v z := by
  cases op <;> simp only [binStr] at h <;> try (cases h; done)
  case add =>
    by_cases hb : a.size + b.size ≤ 4611686018427387904
    · rw [if_pos hb] at h
      injection h with h; subst h
      have h63 : IntKind.i64.max = 9223372036854775807 := by decide
      have : ¬ (IntKind.i64.max < (a.size : Int) + (b.size : Int)) := by omega
      exact ⟨.string (a ++ b), by simp [binOp, Op.stringOp, h63]; omega, R1.str.2 rfl⟩
    · simp [hb] at h
  case eql => injection h with h; subst h; exact ⟨.bool (decide (a = b)), by simp [binOp, Op.stringOp, toList_eq], R1.bool.2 rfl⟩
  case neq => injection h with h; subst h; exact ⟨.bool (decide (a ≠ b)), by simp [binOp, Op.stringOp, toList_eq], R1.bool.2 rfl⟩
  case lss => injection h with h; subst h; exact ⟨_, by simp only [binOp, Op.stringOp, ByteArray.toList_eq, dataList_eq]; rfl, R1.bool.2 rfl⟩
  case leq => injection h with h; subst h; exact ⟨_, by simp only [binOp, Op.stringOp, ByteArray.toList_eq, dataList_eq]; rfl, R1.bool.2 rfl⟩
  case gtr => injection h with h; subst h; exact ⟨_, by simp only [binOp, Op.stringOp, ByteArray.toList_eq, dataList_eq]; rfl, R1.bool.2 rfl⟩
  case geq => injection h with h; subst h; exact ⟨_, by simp only [binOp, Op.stringOp, ByteArray.toList_eq, dataList_eq]; rfl, R1.bool.2 rfl⟩
end
end Go.Proofs.Ytgibpomhiilehaa.Dv
