/- slices.Clone (printed by wip/tools/clone.py). -/
import Derived.Test.YtfclelafcdcilaaDoorG1
set_option linter.unusedVariables false
set_option linter.unusedSimpArgs false
namespace Go.Proofs.YtfclelafcdcilaaDoor.Dv
open Go Go.Proofs
/-- What slices.Clone does. -/
def cloneS (esz bytes : Nat) (vs : List D) (σ : Store) : Option (Prop × D × Store) := match vs with
  | [.sl f xs] => match xs with
    | [] => some (True, .sl true [], σ)
    | x :: xs => some (((x :: xs).all D.pure = true ∧ (x :: xs).all (okEl esz) = true) ∧ (x :: xs).length * max bytes 1 ≤ 140737488355328, .ms σ.length 0 (x :: xs).length (x :: xs).length false, σ ++ [some (.row .own esz (x :: xs))])
  | _ => none
def cloneB (esz bytes : Nat) (vs : List D) (σ : Store) : Option (D × Store) := match vs with
  | [.sl f xs] => match xs with
    | [] => some (.sl true [], σ)
    | x :: xs => if ((x :: xs).all D.pure = true ∧ (x :: xs).all (okEl esz) = true) ∧ (x :: xs).length * max bytes 1 ≤ 140737488355328 then some (.ms σ.length 0 (x :: xs).length (x :: xs).length false, σ ++ [some (.row .own esz (x :: xs))]) else none
  | _ => none
theorem cloneB_ok {esz bytes : Nat} {vs : List D} {σ : Store} {r : D} {σ' : Store} (h : cloneB esz bytes vs σ = some (r, σ')) : ∃ p, cloneS esz bytes vs σ = some (p, r, σ') ∧ p := by
  unfold cloneB at h
  unfold cloneS
  split at h
  · split at h
    · injection h with h; injection h with h1 h2; subst h1 h2; exact ⟨_, rfl, trivial⟩
    · split at h
      · rename_i hc
        injection h with h; injection h with h1 h2; subst h1 h2
        exact ⟨_, rfl, hc⟩
      · cases h
  · cases h
theorem clone_all {f : FuncId} {esz bytes : Nat}
    (h1 : ∀ (fl : Bool) (x : D) (xs : List D), (x :: xs).all D.pure = true → (x :: xs).all (okEl esz) = true → (xs.length + 1) * max bytes 1 ≤ 140737488355328 → RefFun Tryd.prog f [.sl fl (x :: xs)] [] (.ms 0 0 (xs.length + 1) (xs.length + 1) false) [some (.row .own esz (x :: xs))])
    (h2 : RefFun Tryd.prog f [.nsl true] [] (.sl true []) []) (h3 : RefFun Tryd.prog f [.nsl false] [] (.sl true []) []) :
    ∀ vs σ p r σ', cloneS esz bytes vs σ = some (p, r, σ') → p → RefFun Tryd.prog f vs σ r σ' := by
  intro vs σ p r σ' h hp
  unfold cloneS at h
  have hsub : SubSt [] σ [] := ⟨rfl, by simp, fun k id hk => by simp at hk⟩
  split at h
  · rename_i fl xs
    split at h
    · injection h with h; injection h with h4 h; injection h with h5 h6
      subst h4 h5 h6
      have hb : BackSt [] [] σ [] σ := ⟨by simp, by simp, by simp, by simp, fun id hid _ => rfl, fun k id hk => by simp at hk, fun j k hk => by simp at hk⟩
      have := RefFun.frame (args := [.sl fl []]) hsub hb (RefFun.nils h2 h3)
      exact this
    · rename_i x xs
      injection h with h; injection h with h4 h; injection h with h5 h6
      subst h4 h5 h6
      obtain ⟨⟨hq, ho⟩, hl⟩ := hp
      have hb : BackSt [] [0] σ [some (.row .own esz (x :: xs))] (σ ++ [some (.row .own esz (x :: xs))]) := by
        refine ⟨by simp, by simp, by simp, fun k hk => ?_, fun id hid _ => obj_app_lt hid, fun k id hk => by simp at hk, fun j k hk => ?_⟩
        · have : k = 0 := by simpa using hk
          subst this
          refine ⟨by simp, fun o ho => ?_⟩
          injection ho with ho; exact ⟨_, _, ho.symm⟩
        · match j, hk with
          | 0, hk =>
            injection hk with hk; subst hk
            right
            exact ⟨_, _, _, _, rfl, by rw [Nat.add_zero]; exact obj_app_eq .., .inl ⟨rfl, hq⟩⟩
      have hf := RefFun.frame (args := [.sl fl (x :: xs)]) hsub hb (h1 fl x xs hq ho (by simpa using hl))
      have e4 : ren (asSrc (backL [] [0] σ.length)) (.ms 0 0 (xs.length + 1) (xs.length + 1) false) = .ms σ.length 0 (xs.length + 1) (xs.length + 1) false := by
        have : rid (asSrc (backL [] [0] σ.length)) 0 = some σ.length := by
          unfold rid
          rw [asSrc_fst]
          exact idx_back rfl (by simp) (by decide)
        simp only [ren, renLeaf, this]
      rw [e4] at hf
      exact hf
  · cases h









end Go.Proofs.YtfclelafcdcilaaDoor.Dv
