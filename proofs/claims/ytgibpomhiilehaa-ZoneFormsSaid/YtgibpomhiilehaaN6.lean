/- What falls to each zone: the plain law. -/
import Derived.Test.YtgibpomhiilehaaN5
import Derived.Test.YtgibpomhiilehaaA8
set_option linter.unusedVariables false
set_option linter.unusedSimpArgs false
namespace Go.Proofs.Ytgibpomhiilehaa.Dv
open Go Go.Proofs
theorem zshV_ok {n h : Nat} {L : Int} {many : Nat → Int} (h1 : h < n) (hn : 2 ≤ n ∧ n ≤ 100) (hL : 0 < L) (hm : ∀ k, 0 ≤ many k ∧ many k ≤ L ∧ many k ≤ 1000) (hpos : ∀ k, k < n → 1 ≤ many k) :
    ∃ part : Nat → Int, zshV n h L many = tab n (fun i => ((i : Int), part i)) ∧ (∀ i, i < n → 0 ≤ part i) ∧ (tab n part).sum = 10000 ∧ (evZ n ≤ 10000 * many h / L → part h = 10000) ∧ 10000 * many h / L ≤ part h ∧ (¬ evZ n ≤ 10000 * many h / L → part h = 10000 * (10000 * many h / L) / evZ n) := by
  have hev : 100 ≤ evZ n ∧ evZ n ≤ 5000 := by
    unfold evZ
    have e1 : (0 : Int) < n := by omega
    exact ⟨(Int.le_ediv_iff_mul_le e1).2 (by omega), Int.ediv_le_of_le_mul e1 (by omega)⟩
  obtain ⟨m1, m2, m3⟩ := hm h
  have hu0 : 0 ≤ 10000 * many h / L := Int.ediv_nonneg (by omega) (by omega)
  have hu1 : 10000 * many h / L ≤ 10000 := Int.ediv_le_of_le_mul hL (by omega)
  by_cases hw : evZ n ≤ 10000 * many h / L
  · refine ⟨fun i => if i = h then 10000 else 0, ?_, fun i _ => by simp only; split <;> omega, ?_, fun _ => by simp, by show _ ≤ (if h = h then (10000 : Int) else 0); rw [if_pos rfl]; exact hu1, fun g => absurd hw g⟩
    · unfold zshV
      rw [if_pos (by unfold ovI; omega)]
    · rw [tab_sum_upd (fun _ => 0) 10000 h1 rfl, ← tab_rep, sum_zeros]; rfl
  · have hov : ¬ 0 ≤ ovI L (evZ n) many h := by unfold ovI; omega
    have hsum : ovI L (evZ n) many h + evZ n = 10000 * many h / L := by unfold ovI; omega
    have hmine : mineZ n h L many = 10000 * (10000 * many h / L) / evZ n := by unfold mineZ; rw [hsum]
    generalize hu : 10000 * many h / L = u at *
    have hmb : 0 ≤ mineZ n h L many ∧ mineZ n h L many ≤ 10000 ∧ u ≤ mineZ n h L many := by
      rw [hmine]
      refine ⟨Int.ediv_nonneg (by omega) (by omega), Int.ediv_le_of_le_mul (by omega) (by omega), (Int.le_ediv_iff_mul_le (by omega)).2 ?_⟩
      have := Int.mul_le_mul_of_nonneg_left (show evZ n ≤ 10000 by omega) hu0
      omega
    have hovb : ∀ k, ovI L (evZ n) many k ≤ 10000 := by
      intro k
      obtain ⟨k1, k2, _⟩ := hm k
      have : 10000 * many k / L ≤ 10000 := Int.ediv_le_of_le_mul hL (by omega)
      unfold ovI; omega
    have key : ∀ X : List Int, X = mn0 n h many ∨ X = ov0 n h L many → (∀ p ∈ X, p ≤ 99999) ∧ X.length = n ∧ X[h]? = some 0 := by
      rintro X (rfl | rfl)
      · refine ⟨fun p hp => ?_, tab_len _ _, by unfold mn0; rw [tab_get _ h1, if_pos rfl]⟩
        obtain ⟨k, _, rfl⟩ := List.mem_map.1 hp
        have := hm k
        split <;> omega
      · refine ⟨fun p hp => ?_, tab_len _ _, by unfold ov0; rw [tab_get _ h1, if_pos rfl]⟩
        obtain ⟨k, _, rfl⟩ := List.mem_map.1 hp
        have := hovb k
        split <;> omega
    have hmn : 0 < tot (mn0 n h many) := by
      obtain ⟨k, hk, hkh⟩ : ∃ k, k < n ∧ k ≠ h := by
        by_cases g : h = 0
        · exact ⟨1, by omega, by omega⟩
        · exact ⟨0, by omega, by omega⟩
      have h3 : many k ∈ mn0 n h many := List.mem_of_getElem? (i := k) (by unfold mn0; rw [tab_get _ hk, if_neg hkh])
      have := tot_mem h3
      have := hpos k hk
      omega
    obtain ⟨X, hX, hp, ht⟩ : ∃ X, (X = mn0 n h many ∨ X = ov0 n h L many) ∧ partsZ n h L many = spreadV (10000 - mineZ n h L many) X ∧ 0 < tot X := by
      by_cases hs : sumV (ov0 n h L many) = 0
      · exact ⟨_, .inl rfl, by unfold partsZ; rw [if_pos hs], hmn⟩
      · refine ⟨_, .inr rfl, by unfold partsZ; rw [if_neg hs], ?_⟩
        unfold sumV at hs
        have := tot_nonneg (ov0 n h L many)
        omega
    obtain ⟨x1, x2, x3⟩ := key X hX
    have hf := fairC (t := 10000 - mineZ n h L many) (by omega) (by omega) x1 (by omega) ht
    rw [← hp] at hf
    have hcl : (clipZ X).length = n := by unfold clipZ; rw [List.length_map, x2]
    have hpl : (partsZ n h L many).length = n := by rw [hf.len, hcl]
    have hch : (clipZ X)[h]? = some 0 := by unfold clipZ; rw [List.getElem?_map, x3]; rfl
    have hph : (partsZ n h L many).getD h 0 = 0 := by
      rw [List.getD_eq_getElem?_getD, List.getElem?_eq_getElem (by omega)]
      exact hf.zero h 0 _ hch (List.getElem?_eq_getElem (by omega)) rfl
    refine ⟨fun i => if i = h then mineZ n h L many else (partsZ n h L many).getD i 0, ?_, fun i hi => ?_, ?_, fun g => absurd g hw, by show u ≤ (if h = h then mineZ n h L many else _); rw [if_pos rfl]; omega, fun _ => by show (if h = h then mineZ n h L many else _) = _; rw [if_pos rfl, hmine]⟩
    · unfold zshV
      rw [if_neg hov]
      unfold fin0
      refine tab_congr fun i hi => ?_
      rw [if_pos (show i < (partsZ n h L many).length by omega)]
    · simp only
      split
      · omega
      · rw [List.getD_eq_getElem?_getD, List.getElem?_eq_getElem (by omega)]
        have hc : i < (clipZ X).length := by omega
        exact (hf.near i _ _ (List.getElem?_eq_getElem hc) (List.getElem?_eq_getElem (by omega))).2.2.1
    · rw [tab_sum_upd _ _ h1 hph]
      have : tab n (fun i => (partsZ n h L many).getD i 0) = partsZ n h L many := by
        conv => rhs; rw [tab_of 0 (partsZ n h L many)]
        rw [hpl]
      rw [this, hf.sum]; omega
theorem many_pos {l : List Stat} {k : Nat} (hk : k < (zNames l).length) : 1 ≤ manyI (zNames l) l k := by
  unfold manyI nmAt
  rw [List.getD_eq_getElem?_getD, List.getElem?_eq_getElem hk]
  obtain ⟨t, ht, e⟩ := ((zNames_all l).2.2 _).1 (List.getElem_mem hk)
  have : t ∈ keptZ ((some (zNames l)[k]).getD ByteArray.empty) l := by
    unfold keptZ
    rw [List.mem_filter]
    exact ⟨ht, by simp [e]⟩
  have := List.length_pos_of_mem this
  omega
theorem cnt_sum {names : List ByteArray} (h : Srt names) : ∀ (l : List Stat), (∀ t ∈ l, t.zone ∈ names) → (cntZ names l).sum = l.length := by
  intro l
  rw [← List.reverse_reverse l]
  generalize l.reverse = m
  induction m with
  | nil => intro _; rw [List.reverse_nil, cntZ_nil, sum_zeros]; rfl
  | cons t m ih =>
    intro hz
    rw [List.reverse_cons] at hz ⊢
    obtain ⟨x, k1, k2, k3⟩ := cntZ_snoc h m.reverse (hz t (by simp))
    have := ih fun u hu => hz u (List.mem_append_left _ hu)
    rw [← k3, sum_set _ k1, this]
    simp
    omega
theorem many_own {own : ByteArray} {l : List Stat} (h : hasB own (zNames l) = true) : nmAt (zNames l) (posB own (zNames l)) = own := by
  obtain ⟨A, B, e, e1, e2, e3, e4⟩ := srt_split own (zNames_all l).1
  have hb := e4.1 (hasB_iff.1 h)
  cases B with
  | nil => cases hb
  | cons b B =>
    rw [List.head?_cons, Option.some.injEq] at hb
    unfold nmAt
    rw [← e1, e, List.getD_eq_getElem?_getD]
    simp [hb]
theorem zsh_ok {own : ByteArray} {l : List Stat} (h0 : own ≠ ByteArray.mk #[]) (hh : hasB own (zNames l) = true) (hN : 2 ≤ (zNames l).length) (hN1 : (zNames l).length ≤ 100) (hL : l.length ≤ 1000) :
    ∃ part : Nat → Int, zsh own l = tab (zNames l).length (fun i => ((i : Int), part i)) ∧ (∀ i, i < (zNames l).length → 0 ≤ part i) ∧ (tab (zNames l).length part).sum = 10000 ∧ (evZ (zNames l).length ≤ 10000 * ((keptZ own l).length : Int) / l.length → part (posB own (zNames l)) = 10000) ∧ 10000 * ((keptZ own l).length : Int) / l.length ≤ part (posB own (zNames l)) ∧
      (¬ evZ (zNames l).length ≤ 10000 * ((keptZ own l).length : Int) / l.length → part (posB own (zNames l)) = 10000 * (10000 * ((keptZ own l).length : Int) / l.length) / evZ (zNames l).length) := by
  have g2 := (zNames_all l).2.1
  have hz : zsh own l = zshV (zNames l).length (posB own (zNames l)) l.length (manyI (zNames l) l) := if_neg (by rintro (h | h | h); exact h0 h; rw [hh] at h; cases h; omega)
  have := zshV_ok (n := (zNames l).length) (h := posB own (zNames l)) (L := (l.length : Int)) (many := manyI (zNames l) l) (zNames_own hh) ⟨hN, hN1⟩ (by omega) (fun k => ⟨(many_bound _ hL k).1, many_le _ _ k, (many_bound _ hL k).2⟩) (fun k hk => many_pos hk)
  have e : manyI (zNames l) l (posB own (zNames l)) = ((keptZ own l).length : Int) := by unfold manyI; rw [many_own hh]
  rw [e] at this
  rw [hz]
  exact this
end Go.Proofs.Ytgibpomhiilehaa.Dv
