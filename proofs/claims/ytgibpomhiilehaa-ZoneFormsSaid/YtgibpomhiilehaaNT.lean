/- Rows by what stands at each place; sums. -/
import Derived.Test.YtgibpomhiilehaaN1
import Derived.Test.YtgibpomhiilehaaA7
import Derived.Test.YtgibpomhiilehaaA8
set_option linter.unusedVariables false
set_option linter.unusedSimpArgs false
namespace Go.Proofs.Ytgibpomhiilehaa.Dv
open Go Go.Proofs
/-- A row by what stands at each place. -/
def tab {α : Type} (n : Nat) (f : Nat → α) : List α := (List.range n).map f
theorem tab_len {α : Type} (n : Nat) (f : Nat → α) : (tab n f).length = n := by simp [tab]
theorem tab_get {α : Type} {n k : Nat} (f : Nat → α) (h : k < n) : (tab n f)[k]? = some (f k) := by simp [tab, h]
theorem tab_congr {α : Type} {n : Nat} {f g : Nat → α} (h : ∀ i, i < n → f i = g i) : tab n f = tab n g := List.map_congr_left fun i hi => h i (List.mem_range.1 hi)
theorem tab_map {α β : Type} (n : Nat) (f : Nat → α) (g : α → β) : (tab n f).map g = tab n fun i => g (f i) := by simp [tab]
theorem tab_set {α : Type} {n k : Nat} (f : Nat → α) (x : α) : (tab n f).set k x = tab n fun i => if i = k then x else f i := by
  apply List.ext_getElem?
  intro i
  by_cases hi : i < n
  · rw [tab_get _ hi, List.getElem?_set]
    by_cases h : k = i
    · subst h; simp [tab_len, hi]
    · rw [if_neg h, tab_get _ hi, if_neg (fun g => h g.symm)]
  · rw [List.getElem?_eq_none (by simp [tab_len]; omega), List.getElem?_eq_none (by simp [tab_len]; omega)]
theorem tab_of {α : Type} (d : α) (l : List α) : l = tab l.length fun i => l.getD i d := by
  apply List.ext_getElem?
  intro i
  by_cases hi : i < l.length
  · rw [tab_get _ hi, List.getElem?_eq_getElem hi, List.getD_eq_getElem?_getD, List.getElem?_eq_getElem hi]; rfl
  · rw [List.getElem?_eq_none (by omega), List.getElem?_eq_none (by simp [tab_len]; omega)]
theorem tab_rep {α : Type} (n : Nat) (x : α) : List.replicate n x = tab n fun _ => x := by
  symm
  rw [List.eq_replicate_iff]
  refine ⟨tab_len _ _, fun y hy => ?_⟩
  obtain ⟨_, _, rfl⟩ := List.mem_map.1 hy
  rfl
theorem pure_shD' (l : List Shr) : (l.map shD).all D.pure = true := by rw [List.all_eq_true]; intro x hx; obtain ⟨n, _, rfl⟩ := List.mem_map.1 hx; rfl

theorem iget {n h : Nat} (f : Nat → Int) (hh : h < n) : (List.map iD (tab n f))[0 + ((h : Nat) : Int).toNat]? = some (.int .i64 (f h)) := by
  rw [Nat.zero_add, Int.toNat_natCast, List.getElem?_map, tab_get _ hh]; rfl
theorem sget {n h : Nat} (f : Nat → Shr) (hh : h < n) : (List.map shD (tab n f))[0 + ((h : Nat) : Int).toNat]? = some (.agg [.int .i64 (f h).1, .int .i64 (f h).2]) := by
  rw [Nat.zero_add, Int.toNat_natCast, List.getElem?_map, tab_get _ hh]; rfl
theorem iset {n : Nat} (h : Nat) (f : Nat → Int) (x : Int) : (List.map iD (tab n f)).set (0 + ((h : Nat) : Int).toNat) (.int .i64 x) = List.map iD (tab n fun i => if i = h then x else f i) := by
  rw [Nat.zero_add, Int.toNat_natCast]
  show (List.map iD (tab n f)).set h (iD x) = _
  rw [← List.map_set, tab_set]
theorem sset {n : Nat} (h : Nat) (f : Nat → Shr) (a b : Int) : (List.map shD (tab n f)).set (0 + ((h : Nat) : Int).toNat) (.agg [.int .i64 a, .int .i64 b]) = List.map shD (tab n fun i => if i = h then (a, b) else f i) := by
  rw [Nat.zero_add, Int.toNat_natCast]
  show (List.map shD (tab n f)).set h (shD (a, b)) = _
  rw [← List.map_set, tab_set]
theorem fullT {α : Type} (n : Nat) (f : Nat → α) (g : α → D) : List.take n (List.drop 0 (List.map g (tab n f))) = List.map g (tab n f) := by
  rw [List.drop_zero]
  exact List.take_of_length_le (by rw [List.length_map, tab_len]; omega)
theorem ix1 (i : Nat) : D.int .i64 ((i + 1 : Nat) : Int) = D.int .i64 ((i : Int) + 1) := rfl
def sprS2 (vs : List D) : Option DOut := match vs with | [.int .i64 t, .sl _ ys] => some ⟨rI t ∧ ∃ l : List Int, ys = l.map iD ∧ (∀ p ∈ l, rI p) ∧ l.length ≤ 100, .sl true ((spreadV t (ys.map dI)).map iD)⟩ | _ => none
def sprC2 : Ctr := ⟨51, sprS2, by
  intro vs o ho hp
  unfold sprS2 at ho
  split at ho
  · rename_i t f ys
    injection ho with ho; subst ho
    obtain ⟨h1, l, rfl, h2, h3⟩ := hp
    exact sprC.ok [.int .i64 t, .sl f (l.map iD)] ⟨rI t ∧ l.map iD = ((l.map iD).map dI).map iD ∧ (∀ p ∈ (l.map iD).map dI, rI p) ∧ (l.map iD).length ≤ 100, .sl true ((spreadV t ((l.map iD).map dI)).map iD)⟩ rfl ⟨h1, by rw [map_dI], by rw [map_dI]; exact h2, by rw [List.length_map]; exact h3⟩
  · cases ho⟩
theorem spreadV_len (t : Int) (l : List Int) : (spreadV t l).length ≤ l.length := by
  unfold spreadV
  split
  · simp
  · rw [give_len _ _ _ (bases_len _ _ _).symm]; omega
theorem sum_set : ∀ {l : List Int} {h : Nat} {x : Int} (a : Int), l[h]? = some x → (l.set h a).sum = l.sum + a - x
  | [], h, x, a, e => by simp at e
  | y :: l, 0, x, a, e => by
    simp only [List.getElem?_cons_zero, Option.some.injEq] at e
    subst e
    rw [List.set_cons_zero, List.sum_cons, List.sum_cons]; omega
  | y :: l, h + 1, x, a, e => by
    rw [List.getElem?_cons_succ] at e
    rw [List.set_cons_succ, List.sum_cons, List.sum_cons, sum_set a e]; omega
theorem sum_zeros : ∀ n : Nat, (List.replicate n (0 : Int)).sum = 0
  | 0 => rfl
  | n + 1 => by rw [List.replicate_succ, List.sum_cons, sum_zeros n]; rfl
theorem tab_sum_upd {n h : Nat} (g : Nat → Int) (a : Int) (hh : h < n) (hg : g h = 0) : (tab n fun i => if i = h then a else g i).sum = a + (tab n g).sum := by
  rw [← tab_set, sum_set a (tab_get g hh), hg]; omega
theorem tab_succ {α : Type} (k : Nat) (f : Nat → α) : tab (k + 1) f = tab k f ++ [f k] := by unfold tab; rw [List.range_succ, List.map_append]; rfl
theorem tab_sum_succ (k : Nat) (f : Nat → Int) : (tab (k + 1) f).sum = (tab k f).sum + f k := by rw [tab_succ]; simp
theorem tab_sum_le {f : Nat → Int} : ∀ {n : Nat} (_ : ∀ i, i < n → 0 ≤ f i) {k : Nat}, k ≤ n → 0 ≤ (tab k f).sum ∧ (tab k f).sum ≤ (tab n f).sum
  | 0, _, k, h => by have : k = 0 := by omega
                     subst this; exact ⟨Int.le_refl 0, Int.le_refl _⟩
  | n + 1, hf, k, h => by
    have h1 := fun {k} => tab_sum_le (f := f) (n := n) (fun i hi => hf i (by omega)) (k := k)
    have h2 := hf n (by omega)
    have h3 := h1 (Nat.le_refl n)
    rw [tab_sum_succ]
    by_cases hk : k = n + 1
    · subst hk; rw [tab_sum_succ]; omega
    · have := h1 (k := k) (by omega); omega
theorem lit16_len : ∀ {l : List Stat} {i : Nat}, i ≤ 81 → ¬ 0 < lit16 l i → i + l.length ≤ 81
  | [], i, hi, _ => by simpa using hi
  | t :: r, i, hi, h => by
    rw [lit16] at h
    split at h
    · exact absurd (by decide) h
    · rename_i hn
      have := lit16_len (l := r) (i := i + 1) (by omega) h
      rw [List.length_cons]
      omega
end Go.Proofs.Ytgibpomhiilehaa.Dv
