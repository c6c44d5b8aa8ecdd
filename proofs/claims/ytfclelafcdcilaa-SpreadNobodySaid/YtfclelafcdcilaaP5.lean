/- Who is far below: the plain law. -/
import Derived.Test.YtfclelafcdcilaaP3
set_option linter.unusedVariables false
set_option linter.unusedSimpArgs false
namespace Go.Proofs.Ytfclelafcdcilaa.Dv
open Go Go.Proofs
theorem farI_pos {S Q n f r : Int} (h : farI S Q n f r = true) : 0 < S - n * r := by
  unfold farI at h
  split at h
  · assumption
  · cases h
theorem cmpI_pos {p q : Int} : 0 < cmpI p q ↔ q < p := by
  unfold cmpI
  split
  · omega
  · split <;> omega
/-- Who is below one that is far below is so, too. -/
theorem farI_mono {S Q n f r r' : Int} (hn : 0 ≤ n) (hr : r' ≤ r) (h : farI S Q n f r = true) : farI S Q n f r' = true := by
  have h0 := farI_pos h
  unfold farI at h ⊢
  rw [if_pos h0] at h
  have hm := Int.mul_le_mul_of_nonneg_left hr hn
  have h1 : 0 < S - n * r' := by omega
  rw [if_pos h1]
  have h2 := cmpI_pos.1 (of_decide_eq_true h)
  refine decide_eq_true (cmpI_pos.2 (Int.lt_of_lt_of_le h2 ?_))
  have hle : S - n * r ≤ S - n * r' := by omega
  have hs : (S - n * r) * (S - n * r) ≤ (S - n * r') * (S - n * r') := Int.mul_le_mul hle hle (by omega) (by omega)
  unfold pr
  have : max ((S - n * r) * (S - n * r)) 0 ≤ max ((S - n * r') * (S - n * r')) 0 := by omega
  exact Int.mul_le_mul_of_nonneg_right this (by omega)
theorem far_ok (f : Int) (L : List Int) : FarOk L L.sum (farV f L) := by
  have hl : (farV f L).length = L.length := List.length_map ..
  have hg : ∀ (i : Nat) (b : Bool) (x : Int), (farV f L)[i]? = some b → L[i]? = some x → farI L.sum (sq L) L.length f x = b := fun i b x h1 h2 => by
    unfold farV at h1
    rw [List.getElem?_map, h2] at h1
    injection h1
  refine ⟨hl, fun i x h1 h2 => ?_, fun i j x y h1 h2 h3 h4 => ?_⟩
  · have := farI_pos (hg i _ x h1 h2)
    rw [Int.mul_comm]
    omega
  · have e1 := hg i _ x h1 h3
    have e2 := hg j _ y h2 h4
    rcases Int.lt_or_le x y with h | h
    · exact h
    · rw [farI_mono (by omega) h e1] at e2
      cases e2
theorem sum_rot (k : Nat) (L : List Int) : (L.drop k ++ L.take k).sum = L.sum := by
  conv => rhs; rw [← List.take_append_drop k L]
  rw [List.sum_append, List.sum_append]; omega
theorem sq_rot (k : Nat) (L : List Int) : sq (L.drop k ++ L.take k) = sq L := by
  unfold sq
  rw [List.map_append, List.map_drop, List.map_take, sum_rot]
theorem far_rot (f : Int) (k : Nat) (L : List Int) : farV f (L.drop k ++ L.take k) = (farV f L).drop k ++ (farV f L).take k := by
  have hl : (L.drop k ++ L.take k).length = L.length := by rw [List.length_append, List.length_drop, List.length_take]; omega
  unfold farV
  rw [sum_rot, sq_rot, hl, List.map_append, List.map_drop, List.map_take]
theorem sum_rep (n : Nat) (c : Int) : (List.replicate n c).sum = (n : Int) * c := by
  induction n with
  | zero => simp
  | succ n ih => rw [List.replicate_succ, List.sum_cons, ih, show ((n + 1 : Nat) : Int) = (n : Int) + 1 by omega, Int.add_mul]; omega
theorem far_one (f : Int) (n : Nat) (c : Int) : ∀ x ∈ farV f (List.replicate n c), x = false := by
  intro x hx
  unfold farV at hx
  obtain ⟨r, hr, rfl⟩ := List.mem_map.1 hx
  rw [List.eq_of_mem_replicate hr, sum_rep, List.length_replicate]
  unfold farI
  rw [if_neg (by omega)]
end Go.Proofs.Ytfclelafcdcilaa.Dv
