/- Products by a third, comparisons, parts, draws. -/
import Derived.Test.YtfclelafcdcilaaA3
set_option linter.unusedVariables false
set_option linter.unusedSimpArgs false
namespace Go.Proofs.Ytfclelafcdcilaa.Dv
open Go Go.Proofs
def rI (a : Int) : Prop := -9223372036854775808 ≤ a ∧ a ≤ 9223372036854775807
def mdI (a b c : Int) : Int × Bool := if a < 0 then (0, false) else if b < 0 then (0, false) else if c < 1 then (0, false) else if 4611686018427387904 < a * b / c then (0, false) else (a * b / c, true)
def pr (a b : Int) : Int := max a 0 * max b 0
def cmpI (p q : Int) : Int := if p < q then -1 else if p = q then 0 else 1
def drI (d n : Int) : Int := if n < 1 then 0 else if d.tmod n < 0 then d.tmod n + n else d.tmod n
theorem u64_split {x y : Int} (hx0 : 0 ≤ x) (hx1 : x ≤ 9223372036854775807) (hy0 : 0 ≤ y) (hy1 : y ≤ 9223372036854775807) : 0 ≤ x * y ∧ 0 ≤ x * y / 18446744073709551616 ∧ x * y / 18446744073709551616 ≤ 9223372036854775807 ∧ 0 ≤ x * y % 18446744073709551616 ∧ x * y % 18446744073709551616 < 18446744073709551616 ∧ x * y / 18446744073709551616 * 18446744073709551616 + x * y % 18446744073709551616 = x * y := by
  have h1 := Int.mul_nonneg hx0 hy0
  have h2 := mul_le hx0 hy0 hx1 hy1
  generalize x * y = z at *
  omega
theorem md_big {a b c : Int} (h1 : 0 ≤ a * b) (hc : 0 < c) (h : c ≤ a * b / 18446744073709551616) : 4611686018427387904 < a * b / c := by
  have h3 : (4611686018427387905 : Int) ≤ a * b / c := by
    refine Int.le_ediv_of_mul_le hc ?_
    generalize a * b = z at *
    omega
  omega
theorem mdL {a b c : Int} (ha : rI a) (hb : rI b) (hc : rI c) : (decide (a < (0 : Int)) = true → D.tup [D.int IntKind.i64 (0 : Int), D.bool false] = D.tup [D.int IntKind.i64 (mdI a b c).fst, D.bool (mdI a b c).snd]) ∧ (decide (a < (0 : Int)) = false → (decide (b < (0 : Int)) = true → D.tup [D.int IntKind.i64 (0 : Int), D.bool false] = D.tup [D.int IntKind.i64 (mdI a b c).fst, D.bool (mdI a b c).snd]) ∧ (decide (b < (0 : Int)) = false → (decide (c < (1 : Int)) = true → D.tup [D.int IntKind.i64 (0 : Int), D.bool false] = D.tup [D.int IntKind.i64 (mdI a b c).fst, D.bool (mdI a b c).snd]) ∧ (decide (c < (1 : Int)) = false → inK IntKind.u64 a ∧ inK IntKind.u64 b ∧ (((0 : Int) ≤ a ∧ a < (18446744073709551616 : Int)) ∧ (0 : Int) ≤ b ∧ b < (18446744073709551616 : Int)) ∧ inK IntKind.u64 c ∧ (decide (c ≤ a * b / (18446744073709551616 : Int)) = true → D.tup [D.int IntKind.i64 (0 : Int), D.bool false] = D.tup [D.int IntKind.i64 (mdI a b c).fst, D.bool (mdI a b c).snd]) ∧ (decide (c ≤ a * b / (18446744073709551616 : Int)) = false → inK IntKind.u64 c ∧ ((0 : Int) ≤ a * b / (18446744073709551616 : Int) ∧ (0 : Int) ≤ a * b % (18446744073709551616 : Int) ∧ a * b % (18446744073709551616 : Int) < (18446744073709551616 : Int) ∧ a * b / (18446744073709551616 : Int) < c ∧ c < (18446744073709551616 : Int)) ∧ (decide ((4611686018427387904 : Int) < (a * b / (18446744073709551616 : Int) * (18446744073709551616 : Int) + a * b % (18446744073709551616 : Int)) / c) = true → D.tup [D.int IntKind.i64 (0 : Int), D.bool false] = D.tup [D.int IntKind.i64 (mdI a b c).fst, D.bool (mdI a b c).snd]) ∧ (decide ((4611686018427387904 : Int) < (a * b / (18446744073709551616 : Int) * (18446744073709551616 : Int) + a * b % (18446744073709551616 : Int)) / c) = false → inK IntKind.i64 ((a * b / (18446744073709551616 : Int) * (18446744073709551616 : Int) + a * b % (18446744073709551616 : Int)) / c) ∧ D.tup [D.int IntKind.i64 ((a * b / (18446744073709551616 : Int) * (18446744073709551616 : Int) + a * b % (18446744073709551616 : Int)) / c), D.bool true] = D.tup [D.int IntKind.i64 (mdI a b c).fst, D.bool (mdI a b c).snd]))))) := by
  dsimp only [inK]
  unfold rI at ha hb hc
  simp only [decide_eq_true_eq, decide_eq_false_iff_not]
  refine ⟨fun h => by simp [mdI, h], fun h1 => ⟨fun h => by simp [mdI, h], fun h2 => ⟨fun h => by simp [mdI, h], fun h3 => ?_⟩⟩⟩
  obtain ⟨k1, k2, k3, k4, k5, k6⟩ := u64_split (x := a) (y := b) (by omega) (by omega) (by omega) (by omega)
  refine ⟨by omega, by omega, by omega, by omega, fun h => ?_, fun h => ?_⟩
  · have := md_big k1 (by omega) h
    simp [mdI, h1, h2, h3, this]
  · refine ⟨by omega, by omega, ?_⟩
    rw [k6]
    have h5 : 0 ≤ a * b / c := Int.ediv_nonneg k1 (by omega)
    exact ⟨fun h => by simp [mdI, h1, h2, h3, h], fun h => ⟨by omega, by simp [mdI, h1, h2, h3, h]⟩⟩
def mdS : List D → Option DOut := fun vs => match vs with | [.int .i64 a, .int .i64 b, .int .i64 c] => some ⟨rI a ∧ rI b ∧ rI c, .tup [.int .i64 (mdI a b c).1, .bool (mdI a b c).2]⟩ | _ => none
def mdC : Ctr := ⟨55, mdS, by
  intro vs o ho hp
  unfold mdS at ho
  split at ho
  · injection ho with ho; subst ho
    exact dataFun0 (C := cfgOf [mulC, divC]) (ctrs_ok [mulC, divC] rfl rfl) rfl Try.func55 (by kernel_rfl) (by kernel_rfl) (by kernel_rfl) (by kernel_rfl) (by kernel_rfl) (mdL hp.1 hp.2.1 hp.2.2)
  · cases ho⟩
theorem cmp_pair {p q : Int} (hp : 0 ≤ p) (hq : 0 ≤ q) : (p < q ↔ p / 18446744073709551616 < q / 18446744073709551616 ∨ p / 18446744073709551616 = q / 18446744073709551616 ∧ p % 18446744073709551616 < q % 18446744073709551616) ∧ (p = q ↔ p / 18446744073709551616 = q / 18446744073709551616 ∧ p % 18446744073709551616 = q % 18446744073709551616) := by omega
theorem cmpL {a b c d : Int} (ha : rI a) (hb : rI b) (hc : rI c) (hd : rI d) : inK IntKind.u64 (max a (0 : Int)) ∧ inK IntKind.u64 (max b (0 : Int)) ∧ (((0 : Int) ≤ max a (0 : Int) ∧ max a (0 : Int) < (18446744073709551616 : Int)) ∧ (0 : Int) ≤ max b (0 : Int) ∧ max b (0 : Int) < (18446744073709551616 : Int)) ∧ inK IntKind.u64 (max c (0 : Int)) ∧ inK IntKind.u64 (max d (0 : Int)) ∧ (((0 : Int) ≤ max c (0 : Int) ∧ max c (0 : Int) < (18446744073709551616 : Int)) ∧ (0 : Int) ≤ max d (0 : Int) ∧ max d (0 : Int) < (18446744073709551616 : Int)) ∧ (decide (max a (0 : Int) * max b (0 : Int) / (18446744073709551616 : Int) < max c (0 : Int) * max d (0 : Int) / (18446744073709551616 : Int)) = true → D.int IntKind.i64 (-1 : Int) = D.int IntKind.i64 (cmpI (pr a b) (pr c d))) ∧ (decide (max a (0 : Int) * max b (0 : Int) / (18446744073709551616 : Int) < max c (0 : Int) * max d (0 : Int) / (18446744073709551616 : Int)) = false → (decide (max a (0 : Int) * max b (0 : Int) / (18446744073709551616 : Int) = max c (0 : Int) * max d (0 : Int) / (18446744073709551616 : Int)) = true → (decide (max a (0 : Int) * max b (0 : Int) % (18446744073709551616 : Int) < max c (0 : Int) * max d (0 : Int) % (18446744073709551616 : Int)) = true → D.int IntKind.i64 (-1 : Int) = D.int IntKind.i64 (cmpI (pr a b) (pr c d))) ∧ (decide (max a (0 : Int) * max b (0 : Int) % (18446744073709551616 : Int) < max c (0 : Int) * max d (0 : Int) % (18446744073709551616 : Int)) = false → (decide (max a (0 : Int) * max b (0 : Int) / (18446744073709551616 : Int) = max c (0 : Int) * max d (0 : Int) / (18446744073709551616 : Int)) = true → (decide (max a (0 : Int) * max b (0 : Int) % (18446744073709551616 : Int) = max c (0 : Int) * max d (0 : Int) % (18446744073709551616 : Int)) = true → D.int IntKind.i64 (0 : Int) = D.int IntKind.i64 (cmpI (pr a b) (pr c d))) ∧ (decide (max a (0 : Int) * max b (0 : Int) % (18446744073709551616 : Int) = max c (0 : Int) * max d (0 : Int) % (18446744073709551616 : Int)) = false → D.int IntKind.i64 (1 : Int) = D.int IntKind.i64 (cmpI (pr a b) (pr c d)))) ∧ (decide (max a (0 : Int) * max b (0 : Int) / (18446744073709551616 : Int) = max c (0 : Int) * max d (0 : Int) / (18446744073709551616 : Int)) = false → D.int IntKind.i64 (1 : Int) = D.int IntKind.i64 (cmpI (pr a b) (pr c d))))) ∧ (decide (max a (0 : Int) * max b (0 : Int) / (18446744073709551616 : Int) = max c (0 : Int) * max d (0 : Int) / (18446744073709551616 : Int)) = false → (decide (max a (0 : Int) * max b (0 : Int) / (18446744073709551616 : Int) = max c (0 : Int) * max d (0 : Int) / (18446744073709551616 : Int)) = true → (decide (max a (0 : Int) * max b (0 : Int) % (18446744073709551616 : Int) = max c (0 : Int) * max d (0 : Int) % (18446744073709551616 : Int)) = true → D.int IntKind.i64 (0 : Int) = D.int IntKind.i64 (cmpI (pr a b) (pr c d))) ∧ (decide (max a (0 : Int) * max b (0 : Int) % (18446744073709551616 : Int) = max c (0 : Int) * max d (0 : Int) % (18446744073709551616 : Int)) = false → D.int IntKind.i64 (1 : Int) = D.int IntKind.i64 (cmpI (pr a b) (pr c d)))) ∧ (decide (max a (0 : Int) * max b (0 : Int) / (18446744073709551616 : Int) = max c (0 : Int) * max d (0 : Int) / (18446744073709551616 : Int)) = false → D.int IntKind.i64 (1 : Int) = D.int IntKind.i64 (cmpI (pr a b) (pr c d))))) := by
  dsimp only [inK]
  unfold rI at ha hb hc hd
  obtain ⟨k1, k2, k3, k4, k5, k6⟩ := u64_split (x := max a 0) (y := max b 0) (by omega) (by omega) (by omega) (by omega)
  obtain ⟨l1, l2, l3, l4, l5, l6⟩ := u64_split (x := max c 0) (y := max d 0) (by omega) (by omega) (by omega) (by omega)
  obtain ⟨m1, m2⟩ := cmp_pair k1 l1
  unfold pr cmpI
  simp only [decide_eq_true_eq, decide_eq_false_iff_not, D.int.injEq, true_and]
  refine ⟨by omega, by omega, by omega, by omega, by omega, by omega, ?_⟩
  generalize max a 0 * max b 0 = x at *
  generalize max c 0 * max d 0 = y at *
  repeat' (first | (intro _) | (apply And.intro))
  all_goals first | omega | (split <;> first | omega | (split <;> omega))
theorem cmpN' {a b c d : Int} (ha : rI a) (hb : rI b) (hc : rI c) (hd : rI d) : inK IntKind.u64 (max (0 : Int) a) ∧ inK IntKind.u64 (max (0 : Int) b) ∧ (((0 : Int) ≤ max (0 : Int) a ∧ max (0 : Int) a < (18446744073709551616 : Int)) ∧ (0 : Int) ≤ max (0 : Int) b ∧ max (0 : Int) b < (18446744073709551616 : Int)) ∧ inK IntKind.u64 (max (0 : Int) c) ∧ inK IntKind.u64 (max (0 : Int) d) ∧ (((0 : Int) ≤ max (0 : Int) c ∧ max (0 : Int) c < (18446744073709551616 : Int)) ∧ (0 : Int) ≤ max (0 : Int) d ∧ max (0 : Int) d < (18446744073709551616 : Int)) ∧ (decide (max (0 : Int) a * max (0 : Int) b / (18446744073709551616 : Int) < max (0 : Int) c * max (0 : Int) d / (18446744073709551616 : Int)) = true → D.int IntKind.i64 (-1 : Int) = D.int IntKind.i64 (cmpI (pr a b) (pr c d))) ∧ (decide (max (0 : Int) a * max (0 : Int) b / (18446744073709551616 : Int) < max (0 : Int) c * max (0 : Int) d / (18446744073709551616 : Int)) = false → (decide (max (0 : Int) a * max (0 : Int) b / (18446744073709551616 : Int) = max (0 : Int) c * max (0 : Int) d / (18446744073709551616 : Int)) = true → (decide (max (0 : Int) a * max (0 : Int) b % (18446744073709551616 : Int) < max (0 : Int) c * max (0 : Int) d % (18446744073709551616 : Int)) = true → D.int IntKind.i64 (-1 : Int) = D.int IntKind.i64 (cmpI (pr a b) (pr c d))) ∧ (decide (max (0 : Int) a * max (0 : Int) b % (18446744073709551616 : Int) < max (0 : Int) c * max (0 : Int) d % (18446744073709551616 : Int)) = false → (decide (max (0 : Int) a * max (0 : Int) b / (18446744073709551616 : Int) = max (0 : Int) c * max (0 : Int) d / (18446744073709551616 : Int)) = true → (decide (max (0 : Int) a * max (0 : Int) b % (18446744073709551616 : Int) = max (0 : Int) c * max (0 : Int) d % (18446744073709551616 : Int)) = true → D.int IntKind.i64 (0 : Int) = D.int IntKind.i64 (cmpI (pr a b) (pr c d))) ∧ (decide (max (0 : Int) a * max (0 : Int) b % (18446744073709551616 : Int) = max (0 : Int) c * max (0 : Int) d % (18446744073709551616 : Int)) = false → D.int IntKind.i64 (1 : Int) = D.int IntKind.i64 (cmpI (pr a b) (pr c d)))) ∧ (decide (max (0 : Int) a * max (0 : Int) b / (18446744073709551616 : Int) = max (0 : Int) c * max (0 : Int) d / (18446744073709551616 : Int)) = false → D.int IntKind.i64 (1 : Int) = D.int IntKind.i64 (cmpI (pr a b) (pr c d))))) ∧ (decide (max (0 : Int) a * max (0 : Int) b / (18446744073709551616 : Int) = max (0 : Int) c * max (0 : Int) d / (18446744073709551616 : Int)) = false → (decide (max (0 : Int) a * max (0 : Int) b / (18446744073709551616 : Int) = max (0 : Int) c * max (0 : Int) d / (18446744073709551616 : Int)) = true → (decide (max (0 : Int) a * max (0 : Int) b % (18446744073709551616 : Int) = max (0 : Int) c * max (0 : Int) d % (18446744073709551616 : Int)) = true → D.int IntKind.i64 (0 : Int) = D.int IntKind.i64 (cmpI (pr a b) (pr c d))) ∧ (decide (max (0 : Int) a * max (0 : Int) b % (18446744073709551616 : Int) = max (0 : Int) c * max (0 : Int) d % (18446744073709551616 : Int)) = false → D.int IntKind.i64 (1 : Int) = D.int IntKind.i64 (cmpI (pr a b) (pr c d)))) ∧ (decide (max (0 : Int) a * max (0 : Int) b / (18446744073709551616 : Int) = max (0 : Int) c * max (0 : Int) d / (18446744073709551616 : Int)) = false → D.int IntKind.i64 (1 : Int) = D.int IntKind.i64 (cmpI (pr a b) (pr c d))))) := by
  simp only [show ∀ x : Int, max 0 x = max x 0 from fun x => Int.max_comm _ _]
  exact cmpL ha hb hc hd
def cmpS : List D → Option DOut := fun vs => match vs with | [.int .i64 a, .int .i64 b, .int .i64 c, .int .i64 d] => some ⟨rI a ∧ rI b ∧ rI c ∧ rI d, .int .i64 (cmpI (pr a b) (pr c d))⟩ | _ => none
def cmpC : Ctr := ⟨23, cmpS, by
  intro vs o ho hp
  unfold cmpS at ho
  split at ho
  · injection ho with ho; subst ho
    exact dataFun0 (C := cfgOf [mulC]) (ctrs_ok [mulC] rfl rfl) rfl Try.func23 (by kernel_rfl) (by kernel_rfl) (by kernel_rfl) (by kernel_rfl) (by kernel_rfl) (cmpL hp.1 hp.2.1 hp.2.2.1 hp.2.2.2)
  · cases ho⟩
def cmpC' : Ctr := ⟨24, cmpS, by
  intro vs o ho hp
  unfold cmpS at ho
  split at ho
  · injection ho with ho; subst ho
    exact dataFun0 (C := cfgOf [mulC]) (ctrs_ok [mulC] rfl rfl) rfl Try.func24 (by kernel_rfl) (by kernel_rfl) (by kernel_rfl) (by kernel_rfl) (by kernel_rfl) (cmpN' hp.1 hp.2.1 hp.2.2.1 hp.2.2.2)
  · cases ho⟩
theorem pctL {a b : Int} (ha : rI a) (hb : rI b) : (rI a ∧ rI b ∧ rI (100 : Int)) ∧ D.int IntKind.i64 (mdI a b (100 : Int)).fst = D.int IntKind.i64 (mdI a b (100 : Int)).fst := by
  exact ⟨⟨ha, hb, by unfold rI; decide⟩, rfl⟩
def pctS : List D → Option DOut := fun vs => match vs with | [.int .i64 a, .int .i64 b] => some ⟨rI a ∧ rI b, .int .i64 (mdI a b 100).1⟩ | _ => none
def pctC : Ctr := ⟨61, pctS, by
  intro vs o ho hp
  unfold pctS at ho
  split at ho
  · injection ho with ho; subst ho
    exact dataFun0 (C := cfgOf [mdC]) (ctrs_ok [mdC] rfl rfl) rfl Try.func61 (by kernel_rfl) (by kernel_rfl) (by kernel_rfl) (by kernel_rfl) (by kernel_rfl) (pctL hp.1 hp.2)
  · cases ho⟩

theorem pr_pos {a b : Int} (ha : 0 ≤ a) (hb : 0 ≤ b) : pr a b = a * b := by unfold pr; rw [Int.max_eq_left ha, Int.max_eq_left hb]
theorem mdI_ok {a b c : Int} (ha : 0 ≤ a) (hb : 0 ≤ b) (hc : 1 ≤ c) (h : a * b / c ≤ 4611686018427387904) : mdI a b c = (a * b / c, true) := by
  unfold mdI
  rw [if_neg (by omega), if_neg (by omega), if_neg (by omega), if_neg (by omega)]
theorem mdI_self {a c : Int} (ha : 0 ≤ a) (ha1 : a ≤ 4611686018427387904) (hc : 1 ≤ c) : mdI a c c = (a, true) := by
  have e : a * c / c = a := Int.mul_ediv_cancel _ (by omega)
  rw [mdI_ok ha (by omega) hc (by omega), e]
end Go.Proofs.Ytfclelafcdcilaa.Dv
