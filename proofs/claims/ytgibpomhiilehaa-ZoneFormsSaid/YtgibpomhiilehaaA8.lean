/- What is spread is all there is: the plain law. -/
import Derived.Test.YtgibpomhiilehaaA7
set_option linter.unusedVariables false
set_option linter.unusedSimpArgs false
namespace Go.Proofs.Ytgibpomhiilehaa.Dv
open Go Go.Proofs
theorem giveS : ∀ (left : Int) (l os : List Int), l.length = os.length → (give left l os).2.sum + (give left l os).1 = os.sum + left
  | left, [], [], _ => by simp [give]
  | left, p :: l, o :: os, h => by
    have h' : l.length = os.length := by simpa using h
    unfold give
    split
    · have := giveS (left - 1) l os h'; simp only [List.sum_cons]; omega
    · have := giveS left l os h'; simp only [List.sum_cons]; omega
theorem giveG : ∀ (left : Int) (l os : List Int) (i : Nat) (x p o : Int), (give left l os).2[i]? = some x → l[i]? = some p → os[i]? = some o → x = o ∨ (x = o + 1 ∧ 0 < p)
  | left, [], _, i, x, p, o, h1, h2, h3 => by simp at h2
  | left, _ :: _, [], i, x, p, o, h1, h2, h3 => by simp at h3
  | left, q :: l, b :: os, i, x, p, o, h1, h2, h3 => by
    unfold give at h1
    split at h1
    · rename_i hc
      cases i with
      | zero => simp at h1 h2 h3; omega
      | succ i => exact giveG _ l os i x p o (by simpa using h1) (by simpa using h2) (by simpa using h3)
    · cases i with
      | zero => simp at h1 h2 h3; omega
      | succ i => exact giveG _ l os i x p o (by simpa using h1) (by simpa using h2) (by simpa using h3)
/-- What the shares of parts that may be are. -/
structure FairZ (t : Int) (q out : List Int) : Prop where
  len : out.length = q.length
  sum : out.sum = t
  zero : ∀ (i : Nat) (p x : Int), q[i]? = some p → out[i]? = some x → p = 0 → x = 0
  near : ∀ (i : Nat) (p x : Int), q[i]? = some p → out[i]? = some x → x * q.sum ≤ t * p + q.sum ∧ t * p - q.sum ≤ x * q.sum ∧ 0 ≤ x ∧ x ≤ t + 1
  more : ∀ (i j : Nat) (p x r y : Int), q[i]? = some p → out[i]? = some x → q[j]? = some r → out[j]? = some y → p < r → x - 1 ≤ y
theorem totP : ∀ {q : List Int}, (∀ p ∈ q, 0 ≤ p) → tot q = q.sum
  | [], _ => rfl
  | p :: q, h => by
    have h1 := totP fun r hr => h r (List.mem_cons_of_mem _ hr)
    have h2 := h p (List.mem_cons_self ..)
    show max p 0 + tot q = _
    rw [List.sum_cons]; omega
theorem sumSm : ∀ {q : List Int}, (∀ p ∈ q, 0 ≤ p ∧ p ≤ 99999) → 0 ≤ q.sum ∧ q.sum ≤ 99999 * q.length
  | [], _ => by simp
  | p :: q, h => by
    have h1 := sumSm fun r hr => h r (List.mem_cons_of_mem _ hr)
    have h2 := h p (List.mem_cons_self ..)
    rw [List.sum_cons, List.length_cons]; omega
theorem baseMo {t s p r : Int} (ht : 0 ≤ t) (ht1 : t ≤ 1000000) (hs : 0 < s) (hp : 0 ≤ p) (hr : r ≤ s) (h : p ≤ r) : baseV t s p ≤ baseV t s r := by
  obtain ⟨_, _, a1, a2⟩ := baseV_bound ht ht1 hs (p := p) (by omega)
  obtain ⟨_, _, b1, b2⟩ := baseV_bound ht ht1 hs (p := r) (by omega)
  have e1 : max p 0 = p := by omega
  have e2 : max r 0 = r := by omega
  rw [e1] at a1 a2
  rw [e2] at b1 b2
  have h3 : t * p ≤ t * r := Int.mul_le_mul_of_nonneg_left h ht
  have h4 : s * baseV t s p < s * (baseV t s r + 1) := by
    rw [Int.mul_add]
    split at b2 <;> omega
  have := Int.lt_of_mul_lt_mul_left h4 (by omega)
  omega
theorem fairZ {t : Int} {q : List Int} (ht : 0 ≤ t) (ht1 : t ≤ 1000000) (hq : ∀ p ∈ q, 0 ≤ p ∧ p ≤ 99999) (hlen : q.length ≤ 100) (hs : 0 < q.sum) : FairZ t q (spreadV t q) := by
  obtain ⟨s1, s2⟩ := sumSm hq
  have hT := totP fun p hp => (hq p hp).1
  have hS : sumV q = q.sum := by unfold sumV; rw [hT]; omega
  have hl0 : (0 : Int) < q.length := by
    cases q with
    | nil => simp at hs
    | cons _ _ => simp
  have hq2 : (100000 : Int) ≤ 4611686018427387904 / (q.length : Int) := Int.le_ediv_of_mul_le hl0 (by omega)
  have hsp : spreadV t q = (give (t - (bases t q.sum q).sum) q (bases t q.sum q)).2 := by
    unfold spreadV
    rw [if_neg, hS]
    rintro (h | h | h | ⟨p, hp, h⟩)
    · omega
    · omega
    · omega
    · have := hq p hp; omega
  have hbl := bases_len t q.sum q
  have hpos : 0 < tot q := by rw [hT]; exact hs
  obtain ⟨lb1, lb2⟩ := left_bound ht ht1 hpos
  rw [hT] at lb1 lb2
  have key : ∀ (i : Nat) (p x : Int), q[i]? = some p → (spreadV t q)[i]? = some x → (x = baseV t q.sum p ∨ (x = baseV t q.sum p + 1 ∧ 0 < p)) ∧ p ∈ q := by
    intro i p x hp hx
    rw [hsp] at hx
    exact ⟨giveG _ _ _ i x p _ hx hp (by unfold bases; rw [List.getElem?_map, hp]; rfl), List.mem_of_getElem? hp⟩
  have hle : ∀ p ∈ q, p ≤ q.sum := fun p hp => by have := tot_mem hp; omega
  constructor
  · rw [hsp, give_len _ _ _ hbl.symm]
  · have h1 := giveS (t - (bases t q.sum q).sum) q (bases t q.sum q) hbl.symm
    have h2 := give_all (t - (bases t q.sum q).sum) q (bases t q.sum q) hbl.symm lb1 lb2
    rw [hsp]; omega
  · intro i p x hp hx h0
    obtain ⟨k, hm⟩ := key i p x hp hx
    obtain ⟨a1, a2, a3, a4⟩ := baseV_bound ht ht1 hs (p := p) (by have := hle p hm; omega)
    subst h0
    rcases k with k | k
    · rw [k]; have e : q.sum * baseV t q.sum 0 ≤ 0 := by simpa using a3
      rcases Int.lt_or_le 0 (baseV t q.sum 0) with hb | hb
      · have := Int.mul_pos hs hb; omega
      · omega
    · omega
  · intro i p x hp hx
    obtain ⟨k, hm⟩ := key i p x hp hx
    have hp1 := hq p hm
    obtain ⟨a1, a2, a3, a4⟩ := baseV_bound ht ht1 hs (p := p) (by have := hle p hm; omega)
    have e1 : max p 0 = p := by omega
    rw [e1] at a3 a4
    have e2 : q.sum * baseV t q.sum p = baseV t q.sum p * q.sum := Int.mul_comm _ _
    have e3 : (baseV t q.sum p + 1) * q.sum = baseV t q.sum p * q.sum + q.sum := by rw [Int.add_mul, Int.one_mul]
    rcases k with k | ⟨k, kp⟩
    · rw [k]; split at a4 <;> omega
    · rw [k, e3]; split at a4 <;> omega
  · intro i j p x r y hp hx hr hy hlt
    obtain ⟨k, hm⟩ := key i p x hp hx
    obtain ⟨k2, hm2⟩ := key j r y hr hy
    have := baseMo ht ht1 hs (hq p hm).1 (hle r hm2) (show p ≤ r by omega)
    omega
/-- Parts below 0 don't count. -/
def clipZ (l : List Int) : List Int := l.map fun p => max p 0
theorem tot_clip : ∀ l : List Int, tot (clipZ l) = tot l
  | [] => rfl
  | p :: l => by
    show max (max p 0) 0 + tot (clipZ l) = max p 0 + tot l
    rw [tot_clip l]; omega
theorem bases_clip (t s : Int) (l : List Int) : bases t s (clipZ l) = bases t s l := by
  unfold bases clipZ
  rw [List.map_map]
  refine List.map_congr_left fun p _ => ?_
  show (mdI t (max (max p 0) 0) s).1 = (mdI t (max p 0) s).1
  rw [show max (max p 0) 0 = max p 0 by omega]
theorem give_clip : ∀ (left : Int) (l os : List Int), give left (clipZ l) os = give left l os
  | left, [], os => by cases os <;> rfl
  | left, p :: l, [] => rfl
  | left, p :: l, o :: os => by
    show give left (max p 0 :: clipZ l) (o :: os) = _
    unfold give
    have e : (0 < max p 0 ∧ 0 < left) ↔ (0 < p ∧ 0 < left) := by omega
    simp only [e, give_clip _ l os]
theorem spread_clip (t : Int) (l : List Int) : spreadV t (clipZ l) = spreadV t l := by
  have h1 : sumV (clipZ l) = sumV l := by unfold sumV; rw [tot_clip]
  have h2 : (clipZ l).length = l.length := List.length_map ..
  have h3 : (∃ p ∈ clipZ l, 4611686018427387904 / ((clipZ l).length : Int) < p) ↔ ∃ p ∈ l, 4611686018427387904 / (l.length : Int) < p := by
    rw [h2]
    have h0 : 0 ≤ 4611686018427387904 / (l.length : Int) := Int.ediv_nonneg (by omega) (by omega)
    constructor
    · rintro ⟨p, hp, h⟩
      obtain ⟨q, hq, rfl⟩ := List.mem_map.1 hp
      exact ⟨q, hq, by omega⟩
    · rintro ⟨p, hp, h⟩
      exact ⟨max p 0, List.mem_map.2 ⟨p, hp, rfl⟩, by omega⟩
  unfold spreadV
  simp only [h1, h3, bases_clip, give_clip]
theorem fairC {t : Int} {q : List Int} (ht : 0 ≤ t) (ht1 : t ≤ 1000000) (hq : ∀ p ∈ q, p ≤ 99999) (hlen : q.length ≤ 100) (hs : 0 < tot q) : FairZ t (clipZ q) (spreadV t q) := by
  rw [← spread_clip]
  refine fairZ ht ht1 (fun p hp => ?_) (by unfold clipZ; rw [List.length_map]; exact hlen) ?_
  · obtain ⟨x, hx, rfl⟩ := List.mem_map.1 hp
    have := hq x hx
    omega
  · rw [← totP, tot_clip]
    · exact hs
    · intro p hp
      obtain ⟨x, hx, rfl⟩ := List.mem_map.1 hp
      omega
end Go.Proofs.Ytgibpomhiilehaa.Dv
