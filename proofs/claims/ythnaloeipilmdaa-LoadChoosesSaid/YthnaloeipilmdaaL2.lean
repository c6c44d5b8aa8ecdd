/- Of all draws, each is chosen as often as its share says. -/
import Derived.Test.YthnaloeipilmdaaL1
set_option linter.unusedVariables false
set_option linter.unusedSimpArgs false
namespace Go.Proofs.Ythnaloeipilmdaa.Dv
open Go Go.Proofs
def c40 (x : Int) : Int := wr .u64 x % 40
theorem c40_in (x : Int) : 0 ≤ c40 x ∧ c40 x ≤ 39 := by
  unfold c40
  have : 0 ≤ wr .u64 x := by simp only [wr]; omega
  omega
def mkS : Nat → List Int → List Shr
  | _, [] => []
  | k, p :: r => ((k : Int), p) :: mkS (k + 1) r
theorem mkS_len : ∀ (r : List Int) (k : Nat), (mkS k r).length = r.length
  | [], _ => rfl
  | p :: r, k => by simp [mkS, mkS_len r]
theorem mkS_snoc : ∀ (r : List Int) (k : Nat) (p : Int), mkS k (r ++ [p]) = mkS k r ++ [(((k + r.length : Nat) : Int), p)]
  | [], k, p => by simp [mkS]
  | q :: r, k, p => by
    show ((k : Int), q) :: mkS (k + 1) (r ++ [p]) = _
    rw [mkS_snoc r]
    simp only [mkS, List.cons_append, List.length_cons]
    congr 3
    congr 1
    omega
theorem prts_mkS : ∀ (r : List Int) (k : Nat), prts (mkS k r) = r
  | [], _ => rfl
  | p :: r, k => by
    show p :: prts (mkS (k + 1) r) = _
    rw [prts_mkS r]
def okP (r : List Int) : Prop := ∀ p ∈ r, 0 ≤ p ∧ p ≤ 39
theorem tot_sum : ∀ {r : List Int}, okP r → tot r = r.sum ∧ 0 ≤ r.sum ∧ r.sum ≤ 39 * r.length
  | [], _ => ⟨rfl, by simp, by simp⟩
  | p :: r, h => by
    obtain ⟨h1, h2, h3⟩ := tot_sum (r := r) fun q hq => h q (List.mem_cons_of_mem _ hq)
    have := h p (List.mem_cons_self ..)
    have e : tot (p :: r) = max p 0 + tot r := rfl
    rw [e, List.sum_cons, List.length_cons]
    omega
theorem sumV_sum {r : List Int} (h : okP r) (hl : r.length ≤ 1000) : sumV r = r.sum := by
  obtain ⟨h1, h2, h3⟩ := tot_sum h
  unfold sumV
  omega
def pk : List Int → Int → Nat → Int × Bool
  | [], _, _ => (0, false)
  | p :: r, y, k => if y < p then ((k : Int), true) else pk r (y - p) (k + 1)
theorem pickR_pk (x : Int) : ∀ (r g : List Int) (k : Nat), okP g → okP r → g.length + r.length ≤ 1000 → pickR x g (mkS k r) = pk r (x - g.sum) k
  | [], g, k, _, _, _ => rfl
  | p :: r, g, k, hg, hr, hl => by
    have hp := hr p (List.mem_cons_self ..)
    have hg' : okP (g ++ [p]) := by
      intro q hq
      rcases List.mem_append.1 hq with hq | hq
      · exact hg q hq
      · rw [List.mem_singleton.1 hq]; exact hp
    simp only [List.length_cons] at hl
    have e := sumV_sum hg' (by simp; omega)
    show (if x < sumV (g ++ [p]) then ((k : Int), true) else pickR x (g ++ [p]) (mkS (k + 1) r)) = _
    rw [pickR_pk x r (g ++ [p]) (k + 1) hg' (fun q hq => hr q (List.mem_cons_of_mem _ hq)) (by simp; omega), e]
    simp only [pk, List.sum_append, List.sum_cons, List.sum_nil, Int.add_zero]
    by_cases h : x < g.sum + p
    · rw [if_pos h, if_pos (by omega)]
    · rw [if_neg h, if_neg (by omega), Int.sub_sub]
def gotL : List Int → Int → List Int
  | [], _ => []
  | p :: r, y => min p (max y 0) :: gotL r (y - p)
theorem gotL_len : ∀ (r : List Int) (y : Int), (gotL r y).length = r.length
  | [], _ => rfl
  | p :: r, y => by simp [gotL, gotL_len r]
theorem gotL_neg : ∀ {r : List Int} {y : Int}, okP r → y ≤ 0 → gotL r y = r.map fun _ => 0
  | [], _, _, _ => rfl
  | p :: r, y, h, hy => by
    have hp := h p (List.mem_cons_self ..)
    simp only [gotL, List.map_cons]
    rw [gotL_neg (fun q hq => h q (List.mem_cons_of_mem _ hq)) (by omega)]
    congr 1
    omega
theorem gotL_full : ∀ {r : List Int} {y : Int}, okP r → r.sum ≤ y → gotL r y = r
  | [], _, _, _ => rfl
  | p :: r, y, h, hy => by
    have hp := h p (List.mem_cons_self ..)
    have hr : okP r := fun q hq => h q (List.mem_cons_of_mem _ hq)
    have := (tot_sum hr).2.1
    rw [List.sum_cons] at hy
    simp only [gotL]
    rw [gotL_full hr (by omega)]
    congr 1
    omega
theorem gotL_step : ∀ {r : List Int} {y : Int} (k : Nat), okP r → 0 ≤ y → y < r.sum → ∃ i v, pk r y k = (((k + i : Nat) : Int), true) ∧ i < r.length ∧ (gotL r y)[i]? = some v ∧ 0 ≤ v ∧ v ≤ 39 ∧ gotL r (y + 1) = (gotL r y).set i (v + 1)
  | [], y, k, _, h0, h1 => by simp at h1; omega
  | p :: r, y, k, h, h0, h1 => by
    have hp := h p (List.mem_cons_self ..)
    have hr : okP r := fun q hq => h q (List.mem_cons_of_mem _ hq)
    rw [List.sum_cons] at h1
    by_cases hy : y < p
    · refine ⟨0, y, by simp [pk, hy], by simp, ?_, h0, by omega, ?_⟩
      · simp only [gotL, List.getElem?_cons_zero, Option.some.injEq]; omega
      · simp only [gotL, List.set_cons_zero]
        rw [gotL_neg hr (by omega), gotL_neg hr (by omega)]
        congr 1
        omega
    · obtain ⟨i, v, e1, e2, e3, e4, e5, e6⟩ := gotL_step (k + 1) hr (show 0 ≤ y - p by omega) (by omega)
      refine ⟨i + 1, v, ?_, by simp; omega, by simpa [gotL] using e3, e4, e5, ?_⟩
      · simp only [pk]
        rw [if_neg hy, e1]
        congr 2
        omega
      · simp only [gotL, List.set_cons_succ]
        rw [show y + 1 - p = y - p + 1 by omega, e6]
        congr 1
        omega
theorem choose_pk {q : List Int} (h : okP q) (hl : q.length ≤ 12) (d : Int) : chooseM (mkS 0 q) d = if q.sum = 0 then (0, false) else pk q (drI d q.sum) 0 := by
  unfold chooseM
  rw [prts_mkS, sumV_sum h (by omega), pickR_pk _ q [] 0 (by intro p hp; cases hp) h (by simp; omega)]
  simp
end Go.Proofs.Ythnaloeipilmdaa.Dv
