/- zone.In (under way): its closure. -/
import Derived.Test.YtgibpomhiilehaaM2
set_option linter.unusedVariables false
set_option linter.unusedSimpArgs false
namespace Go.Proofs.Ytgibpomhiilehaa.Dv
open Go Go.Proofs
def zCfg (n0 : Nat) (l : List Ctr) (m : List RCtr) (h : List (Nat × Hn)) : WCfg := { mCfg l m h with n0 := n0 }
def zinS (vs : List D) (σ : Store) : Option (Prop × D × Store) := match vs with
  | [.agg [a0, a1, a2, .str z, a4, a5, a6, a7, a8, a9, a10, a11, a12, a13, a14, a15, a16, a17, a18, a19, a20], .ptr b 0 0] => match σ.obj b with
    | some (.row .own 1 [.str nm]) => some (∃ t : Stat, .agg [a0, a1, a2, .str z, a4, a5, a6, a7, a8, a9, a10, a11, a12, a13, a14, a15, a16, a17, a18, a19, a20] = statD t, .bool (decide (z ≠ nm)), σ)
    | _ => none
  | _ => none
theorem zinN (t : Stat) (nm : ByteArray) : D.bool (decide (t.zone ≠ nm)) = D.bool (decide (t.zone ≠ nm)) ∧ (some (Ob.row St.own (1 : Nat) [D.str nm]) = none ∨ some (Ob.row St.own (1 : Nat) [D.str nm]) = some (Ob.row St.own (1 : Nat) [D.str nm]) ∧ true = true) := by
  exact ⟨rfl, .inr ⟨rfl, rfl⟩⟩
theorem zin_ref (t : Stat) (nm : ByteArray) : RefFun Try.prog 56 [statD t, .ptr 0 0 0] [some (.row .own 1 [.str nm])] (.bool (decide (t.zone ≠ nm))) [some (.row .own 1 [.str nm])] :=
  refFunW (C := zCfg 1 [] [] []) (ctrsR_ok [] [] rfl rfl rfl rfl) [(0, true)] rfl Try.func56 (by kernel_rfl) (l := []) (by kernel_rfl) (fun x hx => by cases hx) (by kernel_rfl) (by kernel_rfl) (zinN t nm)
def zinC : RCtr := ⟨56, zinS, true, (by
  intro vs σ p r σ' h hp
  unfold zinS at h
  split at h
  · rename_i a4 a5 a6 a7 a8 a9 a10 a11 a12 a13 a14 a15 a16 a17 a18 a19 a20 b
    split at h
    · rename_i nm ho
      injection h with h; injection h with e1 h; injection h with e2 e3
      subst e1 e2 e3
      obtain ⟨t, ht⟩ := hp
      rw [ht]
      injection ht with ht
      simp only [List.cons.injEq, D.str.injEq] at ht
      have hz := ht.2.2.2.1
      rw [hz]
      have hsub : SubSt [b] σ [some (.row .own 1 [.str nm])] := ⟨rfl, by simp, fun k id hk => by
        match k, hk with
        | 0, hk => injection hk with hk; subst hk; exact ⟨.own, 1, [.str nm], [.str nm], ho, rfl, .inl ⟨rfl, rfl⟩⟩⟩
      have hb : BackSt [b] [] σ [some (.row .own 1 [.str nm])] σ := ⟨by simp, by simp, by simp, by simp, fun id _ _ => rfl, fun k id hk => by
        match k, hk with
        | 0, hk => injection hk with hk; subst hk; exact .inr ⟨.own, 1, [.str nm], [.str nm], rfl, ho, .inl ⟨rfl, rfl⟩⟩, fun j k hk => by simp at hk⟩
      have h0 : rid (asSrc [b]) b = some 0 := by simp [rid, asSrc]
      have hf := RefFun.frame (args := [statD t, .ptr b 0 0]) hsub hb (by
        have e : [statD t, .ptr b 0 0].map (ren (asSrc [b])) = [statD t, .ptr 0 0 0] := by
          simp only [List.map_cons, List.map_nil, ren, renLeaf, h0, statD]
          rfl
        rw [e]
        exact zin_ref t nm)
      exact hf
    · cases h
  · cases h), (by
  intro _ vs σ p r σ' h
  unfold zinS at h
  split at h
  · split at h
    · injection h with h; injection h with _ h; injection h with _ h; exact h.symm
    · cases h
  · cases h)⟩
end Go.Proofs.Ytgibpomhiilehaa.Dv
