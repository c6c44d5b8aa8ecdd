/- How much falls to each priority: the plain law. -/
import Derived.Test.YtgibpomhiilehaaNC
set_option linter.unusedVariables false
set_option linter.unusedSimpArgs false
namespace Go.Proofs.Ytgibpomhiilehaa.Dv
open Go Go.Proofs
theorem pf_get (c : Cfg) : ∀ (cs : List Cnt) (i : Nat) (x : Cnt), cs[i]? = some x → (pf c cs)[i]? = some (min (partM c x.2.2 x.2.1) (100 - (pf c (cs.take i)).sum)) := by
  intro cs
  rw [← List.reverse_reverse cs]
  generalize cs.reverse = m
  induction m with
  | nil => intro i x h; simp at h
  | cons y m ih =>
    intro i x h
    rw [List.reverse_cons] at h ⊢
    rw [pf_snoc]
    rcases Nat.lt_trichotomy i m.reverse.length with g | g | g
    · rw [List.getElem?_append_left g] at h
      rw [List.getElem?_append_left (by rw [pf_len]; exact g), List.take_append_of_le_length (by omega)]
      exact ih i x h
    · subst g
      rw [List.getElem?_append_right (Nat.le_refl _)] at h
      simp only [Nat.sub_self, List.getElem?_cons_zero, Option.some.injEq] at h
      subst h
      rw [List.getElem?_append_right (by rw [pf_len]; exact Nat.le_refl _), pf_len, Nat.sub_self, List.take_left' rfl]
      rfl
    · rw [List.getElem?_eq_none (by simp at g ⊢; omega)] at h
      cases h
theorem pfI_get {c : Cfg} {cs : List Cnt} {i : Nat} (hi : i < cs.length) : pfI c cs i = min (partM c cs[i].2.2 cs[i].2.1) (100 - (pf c (cs.take i)).sum) := by
  unfold pfI
  rw [List.getD_eq_getElem?_getD, pf_get c cs i cs[i] (List.getElem?_eq_getElem hi)]; rfl
section
variable {c : Cfg} {cs : List Cnt}
theorem pfI_nn (hc : c.nums) (hr : CntRange cs) {i : Nat} (hi : i < cs.length) : 0 ≤ pfI c cs i ∧ pfI c cs i ≤ 100 := by
  unfold pfI
  have h2 : i < (pf c cs).length := by rw [pf_len]; exact hi
  rw [List.getD_eq_getElem?_getD, List.getElem?_eq_getElem h2]
  exact (pf_sum hc hr).1 _ (List.getElem_mem h2)
theorem pfI_le (hc : c.nums) (hr : CntRange cs) {i : Nat} (hi : i < cs.length) : pfI c cs i ≤ (pf c cs).sum := by
  rw [pf_tab c cs]
  have h1 := tab_sum_le (f := pfI c cs) (n := cs.length) (fun j hj => (pfI_nn hc hr hj).1) (k := i + 1) hi
  have h2 := tab_sum_le (f := pfI c cs) (n := cs.length) (fun j hj => (pfI_nn hc hr hj).1) (k := i) (by omega)
  have h3 := tab_sum_succ i (pfI c cs)
  omega
theorem shPart_nn (hc : c.nums) (hr : CntRange cs) (hl : cs.length ≤ 100) {i : Nat} (hi : i < cs.length) : 0 ≤ shPart c cs i := by
  have h := pfI_nn hc hr hi
  unfold shPart
  split
  · split <;> omega
  · rename_i g
    split
    · have hf := pf_spread hc hr hl g
      have h2 : i < (pf c cs).length := by rw [pf_len]; exact hi
      have h3 : i < (spreadV 100 (pf c cs)).length := by rw [hf.len]; exact h2
      rw [List.getD_eq_getElem?_getD, List.getElem?_eq_getElem h3]
      exact (hf.near i _ _ (List.getElem?_eq_getElem h2) (List.getElem?_eq_getElem h3)).2.2.1
    · omega
theorem shPart_sum (hc : c.nums) (hr : CntRange cs) (hl : cs.length ≤ 100) (hn : 0 < cs.length) : (tab cs.length (shPart c cs)).sum = 100 := by
  have hs := (pf_sum hc hr).2
  by_cases h0 : (pf c cs).sum = 0
  · have hz : pfI c cs 0 = 0 := by
      have h1 := pfI_nn hc hr hn
      have h2 := pfI_le hc hr hn
      omega
    have e : tab cs.length (shPart c cs) = tab cs.length fun i => if i = 0 then 100 else pfI c cs i := by
      refine tab_congr fun i hi => ?_
      unfold shPart
      rw [if_pos h0]
    rw [e, tab_sum_upd _ _ hn hz, ← pf_tab c cs, h0]; rfl
  · by_cases h1 : (pf c cs).sum < 100
    · have hf := pf_spread hc hr hl h0
      have e : tab cs.length (shPart c cs) = spreadV 100 (pf c cs) := by
        conv => rhs; rw [tab_of 0 (spreadV 100 (pf c cs)), hf.len, pf_len]
        refine tab_congr fun i hi => ?_
        unfold shPart
        rw [if_neg h0, if_pos h1]
      rw [e, hf.sum]
    · have e : tab cs.length (shPart c cs) = pf c cs := by
        conv => rhs; rw [pf_tab c cs]
        refine tab_congr fun i hi => ?_
        unfold shPart
        rw [if_neg h0, if_neg h1]
      rw [e]; omega
theorem shPart_first (hc : c.nums) (hr : CntRange cs) (hn : 0 < cs.length) (ha : 1 ≤ cs[0].2.1) (h : cs[0].2.1 * 100 ≤ cs[0].2.2 * c.over) : shPart c cs 0 = 100 := by
  obtain ⟨g1, g2, g3⟩ := hr cs[0] (List.getElem_mem hn)
  have ho := nums_load hc
  have hf : ¬ cs[0].2.2 < 1 := by
    intro h'
    have : cs[0].2.2 = 0 := by omega
    rw [this] at h; omega
  have hp : partM c cs[0].2.2 cs[0].2.1 = 100 := by
    rw [partM_eq hc g1 g2 g3, if_neg hf]
    have : 100 ≤ cs[0].2.2 * c.over / cs[0].2.1 := (Int.le_ediv_iff_mul_le (by omega)).2 (by omega)
    omega
  have h0 : pfI c cs 0 = 100 := by
    rw [pfI_get hn, hp, List.take_zero]
    show min 100 (100 - ([] : List Int).sum) = 100
    simp
  have hle := pfI_le hc hr hn
  have hs := (pf_sum hc hr).2
  unfold shPart
  rw [if_neg (by omega), if_neg (by omega), h0]
/-- Nobody of the first is free, and some of a later one are. -/
theorem shPart_none (hc : c.nums) (hr : CntRange cs) (hl : cs.length ≤ 100) (hn : 0 < cs.length) (h0 : cs[0].2.2 = 0) {k : Nat} (hk : k < cs.length) (hp : 0 < partM c cs[k].2.2 cs[k].2.1) : shPart c cs 0 = 0 := by
  obtain ⟨g1, g2, g3⟩ := hr cs[0] (List.getElem_mem hn)
  have hp0 : partM c cs[0].2.2 cs[0].2.1 = 0 := by rw [partM_eq hc g1 g2 g3, if_pos (by omega)]
  have hz : pfI c cs 0 = 0 := by
    rw [pfI_get hn, hp0, List.take_zero]
    exact (by decide : min (0 : Int) (100 - ([] : List Int).sum) = 0)
  have hsum : (pf c cs).sum ≠ 0 := by
    intro hs
    have h1 := pfI_le hc hr hk
    have h2 := pfI_nn hc hr hk
    have h3 := pfI_get (c := c) hk
    obtain ⟨q1, q2, q3⟩ := pf_sum hc (a := cs.take k) fun x hx => hr x (List.mem_of_mem_take hx)
    have h4 : (pf c (cs.take k)).sum ≤ (pf c cs).sum := by
      have e : pf c (cs.take k) = tab k (pfI c cs) := by
        rw [pf_tab c (cs.take k), List.length_take, Nat.min_eq_left (by omega)]
        refine tab_congr fun i hi => ?_
        rw [pfI_get (cs := cs) (by omega), pfI_get (cs := cs.take k) (by rw [List.length_take]; omega)]
        simp only [List.getElem_take, List.take_take, show min i k = i from Nat.min_eq_left (Nat.le_of_lt hi)]
      rw [e, pf_tab c cs]
      exact (tab_sum_le (fun j hj => (pfI_nn hc hr hj).1) (by omega)).2
    omega
  unfold shPart
  rw [if_neg hsum]
  split
  · have hf := pf_spread hc hr hl hsum
    have h2 : 0 < (pf c cs).length := by rw [pf_len]; exact hn
    have h3 : 0 < (spreadV 100 (pf c cs)).length := by rw [hf.len]; exact h2
    rw [List.getD_eq_getElem?_getD, List.getElem?_eq_getElem h3]
    refine hf.zero 0 _ _ (List.getElem?_eq_getElem h2) (List.getElem?_eq_getElem h3) ?_
    unfold pfI at hz
    rw [List.getD_eq_getElem?_getD, List.getElem?_eq_getElem h2] at hz
    exact hz
  · exact hz
/-- Nobody at all is free. -/
theorem shPart_zero (hc : c.nums) (hr : CntRange cs) (hn : 0 < cs.length) (h : ∀ k (hk : k < cs.length), ¬ 0 < partM c cs[k].2.2 cs[k].2.1) : shPart c cs 0 = 100 := by
  have hz : ∀ i, i < cs.length → pfI c cs i = 0 := by
    intro i hi
    have h1 := pfI_nn hc hr hi
    have h2 := pfI_get (c := c) hi
    have h3 := h i hi
    omega
  have hs : (pf c cs).sum = 0 := by
    rw [pf_tab c cs, show tab cs.length (pfI c cs) = tab cs.length fun _ => 0 from tab_congr hz, ← tab_rep, sum_zeros]
  unfold shPart
  rw [if_pos hs, if_pos rfl]
end
/-! ### a priority's members, and its free ones -/
theorem group_len (q : Int) (l : List Stat) : ((gagp q (gamb l)).length : Int) = nP q (resMb l) := by
  unfold gagp nP
  rw [List.length_map]
  rfl
theorem frees_len (q : Int) (l : List Stat) : ((gafr (gagp q (gamb l))).length : Int) = nF q (resMb l) := by
  unfold gafr gagp nF
  rw [List.length_map, List.filter_map, List.length_map, List.filter_filter]
  have : (fun a => (pfr ∘ Stat.cp) a && pgp q a) = fun t => decide (t.prio = q) && freeT t := by funext t; exact Bool.and_comm ..
  rw [this]
  rfl
theorem prI_get {cs : List Cnt} {i : Nat} (hi : i < cs.length) : prI cs i = cs[i].1 := by
  unfold prI
  rw [List.getD_eq_getElem?_getD, List.getElem?_eq_getElem hi]; rfl
end Go.Proofs.Ytgibpomhiilehaa.Dv
