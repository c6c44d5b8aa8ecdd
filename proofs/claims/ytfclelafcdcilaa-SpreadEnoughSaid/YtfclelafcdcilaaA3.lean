/- Division of 128 bits. -/
import Derived.Test.YtfclelafcdcilaaA2
set_option linter.unusedVariables false
set_option linter.unusedSimpArgs false
namespace Go.Proofs.Ytfclelafcdcilaa.Dv
open Go Go.Proofs
structure KnP where
  U : Int
  u : Int
  y1 : Int
  y0 : Int
  un0 : Int
  s : Int
  q1 : Int
  q : Int
  r : Int
def KnP.D (p : KnP) : Int := p.y1 * 4294967296 + p.y0
def KnP.N (p : KnP) : Int := p.U * 4294967296 + p.u
def KnP.ok (p : KnP) : Prop := 2147483648 ≤ p.y1 ∧ p.y1 < 4294967296 ∧ 0 ≤ p.y0 ∧ p.y0 < 4294967296 ∧ 0 ≤ p.u ∧ p.u < 4294967296 ∧ 0 ≤ p.U ∧ p.U < p.D ∧ 0 ≤ p.q ∧ p.q ≤ 4294967297 ∧ 0 ≤ p.r ∧ p.r < 4294967296 ∧ p.q * p.y1 + p.r = p.U ∧ p.N < (p.q + 1) * p.D
def kn1T (p : KnP) (q r : D) : List (Nat × D) := [(15, q), (16, r), (9, .int .u64 p.y1), (10, .int .u64 p.y0), (13, .int .u64 p.u), (11, .int .u64 p.U), (2, .int .u64 p.D), (14, .int .u64 p.un0), (8, .int .u64 p.s)]
def kn2T (p : KnP) (q r : D) : List (Nat × D) := [(18, q), (16, r), (9, .int .u64 p.y1), (10, .int .u64 p.y0), (14, .int .u64 p.u), (17, .int .u64 p.U), (2, .int .u64 p.D), (15, .int .u64 p.q1), (8, .int .u64 p.s)]
def kn1O (p : KnP) : List (Nat × D) := [(15, .int .u64 p.q), (9, .int .u64 p.y1), (10, .int .u64 p.y0), (13, .int .u64 p.u), (11, .int .u64 p.U), (2, .int .u64 p.D), (14, .int .u64 p.un0), (8, .int .u64 p.s)]
def kn2O (p : KnP) : List (Nat × D) := [(18, .int .u64 p.q), (14, .int .u64 p.u), (17, .int .u64 p.U), (2, .int .u64 p.D), (15, .int .u64 p.q1), (8, .int .u64 p.s)]
/-- What does not change: all but the quotient and what is left. -/
def KnP.at (p : KnP) (q r : Int) : KnP := { p with q := q, r := r }
def kn1 : WLoop := { St := KnP, O := KnP, T := fun p => kn1T p (.int .u64 p.q) (.int .u64 p.r), ok := fun p => p.ok, μ := fun p => p.q.toNat, m := fun p => p.at (p.N / p.D) 0, outs := [{ α := KnP, is := fun o a => a = o, ex := .exit 0, T := fun p => kn1O p }] }
def kn2 : WLoop := { St := KnP, O := KnP, T := fun p => kn2T p (.int .u64 p.q) (.int .u64 p.r), ok := fun p => p.ok, μ := fun p => p.q.toNat, m := fun p => p.at (p.N / p.D) 0, outs := [{ α := KnP, is := fun o a => a = o, ex := .exit 2, T := fun p => kn2O p }] }
def divCfg : WCfg := { cfgH [lzC] [(87, .w), (89, .w), (92, .w), (93, .wn), (39, .n), (41, .n), (43, .n), (46, .n), (50, .n), (51, .n), (54, .n), (56, .n), (58, .n), (61, .n), (66, .n), (126, .w), (128, .w), (131, .w), (132, .wn), (96, .n), (101, .n), (134, .n)] with loops := fun k => match k with | 17 => some (kn1.row []) | 24 => some (kn2.row []) | _ => none }
theorem div_of {N D q : Int} (hD : 0 < D) (h1 : q * D ≤ N) (h2 : N < (q + 1) * D) : N / D = q :=
  Int.le_antisymm (Int.le_of_lt_add_one (Int.ediv_lt_of_lt_mul hD h2)) (Int.le_ediv_of_mul_le hD h1)
/-- The step down. -/
theorem kn_down {p : KnP} (h : p.ok) (ht : 4294967296 ≤ p.q ∨ 4294967296 * p.r + p.u < p.q * p.y0) : 1 ≤ p.q ∧ p.N < p.q * p.D := by
  obtain ⟨a1, a2, a3, a4, a5, a6, a7, a8, a9, a10, a11, a12, a13, a14⟩ := h
  have hN : 0 ≤ p.N := by unfold KnP.N; omega
  have hD : 0 < p.D := by unfold KnP.D; omega
  have e : p.q * p.D = p.q * p.y1 * 4294967296 + p.q * p.y0 := by unfold KnP.D; rw [Int.mul_add, Int.mul_assoc]
  have hlt : p.N < p.q * p.D := by
    rcases ht with ht | ht
    · have h1 : 4294967296 * p.D ≤ p.q * p.D := Int.mul_le_mul_of_nonneg_right ht (by omega)
      unfold KnP.N
      omega
    · rw [e]
      unfold KnP.N
      omega
  refine ⟨?_, hlt⟩
  rcases Int.lt_or_le p.q 1 with hq | hq
  · have : p.q = 0 := by omega
    rw [this] at hlt
    omega
  · exact hq
theorem kn_stop {p : KnP} (h : p.ok) (ht : p.q * p.y0 ≤ 4294967296 * p.r + p.u) : p.N / p.D = p.q := by
  obtain ⟨a1, a2, a3, a4, a5, a6, a7, a8, a9, a10, a11, a12, a13, a14⟩ := h
  have hD : 0 < p.D := by unfold KnP.D; omega
  have e : p.q * p.D = p.q * p.y1 * 4294967296 + p.q * p.y0 := by unfold KnP.D; rw [Int.mul_add, Int.mul_assoc]
  refine div_of hD ?_ a14
  rw [e]; unfold KnP.N; omega
theorem kn_break {p : KnP} (h : p.ok) (hd : 1 ≤ p.q ∧ p.N < p.q * p.D) (hr : 4294967296 ≤ p.r + p.y1) : p.N / p.D = p.q - 1 := by
  obtain ⟨a1, a2, a3, a4, a5, a6, a7, a8, a9, a10, a11, a12, a13, a14⟩ := h
  have hD : 0 < p.D := by unfold KnP.D; omega
  have e : (p.q - 1) * p.D = (p.q * p.y1 - p.y1) * 4294967296 + (p.q - 1) * p.y0 := by unfold KnP.D; rw [Int.mul_add, ← Int.mul_assoc, Int.sub_mul, Int.one_mul]
  have hb : (p.q - 1) * p.y0 ≤ 4294967296 * p.y0 := Int.mul_le_mul_of_nonneg_right (by omega) a3
  refine div_of hD ?_ (by rw [Int.sub_add_cancel]; exact hd.2)
  rw [e]; unfold KnP.N; omega
theorem kn_next {p : KnP} (h : p.ok) (hd : 1 ≤ p.q ∧ p.N < p.q * p.D) (hr : p.r + p.y1 < 4294967296) : (p.at (p.q - 1) (p.r + p.y1)).ok := by
  obtain ⟨a1, a2, a3, a4, a5, a6, a7, a8, a9, a10, a11, a12, a13, a14⟩ := h
  refine ⟨a1, a2, a3, a4, a5, a6, a7, a8, by show 0 ≤ p.q - 1; omega, by show p.q - 1 ≤ _; omega, by show 0 ≤ p.r + p.y1; omega, hr, ?_, ?_⟩
  · show (p.q - 1) * p.y1 + (p.r + p.y1) = p.U
    rw [Int.sub_mul, Int.one_mul]; omega
  · show p.N < (p.q - 1 + 1) * p.D
    rw [Int.sub_add_cancel]; exact hd.2
theorem kn_small {p : KnP} (h : p.ok) (hq : p.q < 4294967296) : 0 ≤ p.q * p.y0 ∧ p.q * p.y0 ≤ 18446744073709551615 := by
  obtain ⟨a1, a2, a3, a4, a5, a6, a7, a8, a9, a10, a11, a12, a13, a14⟩ := h
  have h1 := Int.mul_nonneg a9 a3
  have h2 := mul_le a9 a3 (show p.q ≤ 4294967295 by omega) (show p.y0 ≤ 4294967295 by omega)
  omega
theorem kn1_round (p : kn1.St) (hp : kn1.ok p) : Tri Try.prog 0 135 (lp Try.f67 17) (tb (kn1.T p)) (kn1.S p) (kn1.q 0 p) := by
  refine round0 (C := cfgOf []) (ctrs_ok [] rfl rfl) (by kernel_rfl) (by kernel_rfl) (q := (decide ((4294967296 : Int) ≤ p.q) = true → inK IntKind.u64 (p.q - (1 : Int)) ∧ inK IntKind.u64 (p.r + p.y1) ∧ (decide ((4294967296 : Int) ≤ p.r + p.y1) = true → ∃ (a : KnP), a = KnP.mk p.U p.u p.y1 p.y0 p.un0 p.s p.q1 (p.N / p.D) (0 : Int) ∧ D.int IntKind.u64 a.q = D.int IntKind.u64 (p.q - (1 : Int)) ∧ D.int IntKind.u64 a.y1 = D.int IntKind.u64 p.y1 ∧ D.int IntKind.u64 a.y0 = D.int IntKind.u64 p.y0 ∧ D.int IntKind.u64 a.u = D.int IntKind.u64 p.u ∧ D.int IntKind.u64 a.U = D.int IntKind.u64 p.U ∧ D.int IntKind.u64 a.D = D.int IntKind.u64 p.D ∧ D.int IntKind.u64 a.un0 = D.int IntKind.u64 p.un0 ∧ D.int IntKind.u64 a.s = D.int IntKind.u64 p.s) ∧ (decide ((4294967296 : Int) ≤ p.r + p.y1) = false → ∃ (s' : KnP), ((2147483648 : Int) ≤ s'.y1 ∧ s'.y1 < (4294967296 : Int) ∧ (0 : Int) ≤ s'.y0 ∧ s'.y0 < (4294967296 : Int) ∧ (0 : Int) ≤ s'.u ∧ s'.u < (4294967296 : Int) ∧ (0 : Int) ≤ s'.U ∧ s'.U < s'.D ∧ (0 : Int) ≤ s'.q ∧ s'.q ≤ (4294967297 : Int) ∧ (0 : Int) ≤ s'.r ∧ s'.r < (4294967296 : Int) ∧ s'.q * s'.y1 + s'.r = s'.U ∧ s'.N < (s'.q + (1 : Int)) * s'.D) ∧ s'.q.toNat.succ ≤ p.q.toNat ∧ KnP.mk s'.U s'.u s'.y1 s'.y0 s'.un0 s'.s s'.q1 (s'.N / s'.D) (0 : Int) = KnP.mk p.U p.u p.y1 p.y0 p.un0 p.s p.q1 (p.N / p.D) (0 : Int) ∧ D.int IntKind.u64 s'.q = D.int IntKind.u64 (p.q - (1 : Int)) ∧ D.int IntKind.u64 s'.r = D.int IntKind.u64 (p.r + p.y1) ∧ D.int IntKind.u64 s'.y1 = D.int IntKind.u64 p.y1 ∧ D.int IntKind.u64 s'.y0 = D.int IntKind.u64 p.y0 ∧ D.int IntKind.u64 s'.u = D.int IntKind.u64 p.u ∧ D.int IntKind.u64 s'.U = D.int IntKind.u64 p.U ∧ D.int IntKind.u64 s'.D = D.int IntKind.u64 p.D ∧ D.int IntKind.u64 s'.un0 = D.int IntKind.u64 p.un0 ∧ D.int IntKind.u64 s'.s = D.int IntKind.u64 p.s)) ∧ (decide ((4294967296 : Int) ≤ p.q) = false → inK IntKind.u64 (p.q * p.y0) ∧ inK IntKind.u64 ((4294967296 : Int) * p.r) ∧ inK IntKind.u64 ((4294967296 : Int) * p.r + p.u) ∧ (decide ((4294967296 : Int) * p.r + p.u < p.q * p.y0) = true → inK IntKind.u64 (p.q - (1 : Int)) ∧ inK IntKind.u64 (p.r + p.y1) ∧ (decide ((4294967296 : Int) ≤ p.r + p.y1) = true → ∃ (a : KnP), a = KnP.mk p.U p.u p.y1 p.y0 p.un0 p.s p.q1 (p.N / p.D) (0 : Int) ∧ D.int IntKind.u64 a.q = D.int IntKind.u64 (p.q - (1 : Int)) ∧ D.int IntKind.u64 a.y1 = D.int IntKind.u64 p.y1 ∧ D.int IntKind.u64 a.y0 = D.int IntKind.u64 p.y0 ∧ D.int IntKind.u64 a.u = D.int IntKind.u64 p.u ∧ D.int IntKind.u64 a.U = D.int IntKind.u64 p.U ∧ D.int IntKind.u64 a.D = D.int IntKind.u64 p.D ∧ D.int IntKind.u64 a.un0 = D.int IntKind.u64 p.un0 ∧ D.int IntKind.u64 a.s = D.int IntKind.u64 p.s) ∧ (decide ((4294967296 : Int) ≤ p.r + p.y1) = false → ∃ (s' : KnP), ((2147483648 : Int) ≤ s'.y1 ∧ s'.y1 < (4294967296 : Int) ∧ (0 : Int) ≤ s'.y0 ∧ s'.y0 < (4294967296 : Int) ∧ (0 : Int) ≤ s'.u ∧ s'.u < (4294967296 : Int) ∧ (0 : Int) ≤ s'.U ∧ s'.U < s'.D ∧ (0 : Int) ≤ s'.q ∧ s'.q ≤ (4294967297 : Int) ∧ (0 : Int) ≤ s'.r ∧ s'.r < (4294967296 : Int) ∧ s'.q * s'.y1 + s'.r = s'.U ∧ s'.N < (s'.q + (1 : Int)) * s'.D) ∧ s'.q.toNat.succ ≤ p.q.toNat ∧ KnP.mk s'.U s'.u s'.y1 s'.y0 s'.un0 s'.s s'.q1 (s'.N / s'.D) (0 : Int) = KnP.mk p.U p.u p.y1 p.y0 p.un0 p.s p.q1 (p.N / p.D) (0 : Int) ∧ D.int IntKind.u64 s'.q = D.int IntKind.u64 (p.q - (1 : Int)) ∧ D.int IntKind.u64 s'.r = D.int IntKind.u64 (p.r + p.y1) ∧ D.int IntKind.u64 s'.y1 = D.int IntKind.u64 p.y1 ∧ D.int IntKind.u64 s'.y0 = D.int IntKind.u64 p.y0 ∧ D.int IntKind.u64 s'.u = D.int IntKind.u64 p.u ∧ D.int IntKind.u64 s'.U = D.int IntKind.u64 p.U ∧ D.int IntKind.u64 s'.D = D.int IntKind.u64 p.D ∧ D.int IntKind.u64 s'.un0 = D.int IntKind.u64 p.un0 ∧ D.int IntKind.u64 s'.s = D.int IntKind.u64 p.s)) ∧ (decide ((4294967296 : Int) * p.r + p.u < p.q * p.y0) = false → ∃ (a : KnP), a = KnP.mk p.U p.u p.y1 p.y0 p.un0 p.s p.q1 (p.N / p.D) (0 : Int) ∧ D.int IntKind.u64 a.q = D.int IntKind.u64 p.q ∧ D.int IntKind.u64 a.y1 = D.int IntKind.u64 p.y1 ∧ D.int IntKind.u64 a.y0 = D.int IntKind.u64 p.y0 ∧ D.int IntKind.u64 a.u = D.int IntKind.u64 p.u ∧ D.int IntKind.u64 a.U = D.int IntKind.u64 p.U ∧ D.int IntKind.u64 a.D = D.int IntKind.u64 p.D ∧ D.int IntKind.u64 a.un0 = D.int IntKind.u64 p.un0 ∧ D.int IntKind.u64 a.s = D.int IntKind.u64 p.s))) (by kernel_rfl) ?_
  dsimp only [inK]
  have hp : p.ok := hp
  obtain ⟨a1, a2, a3, a4, a5, a6, a7, a8, a9, a10, a11, a12, a13, a14⟩ := id hp
  simp only [decide_eq_true_eq, decide_eq_false_iff_not]
  refine ⟨fun t1 => ?_, fun t1 => ⟨kn_small hp (by omega), by omega, by omega, fun t2 => ?_, fun t2 => ?_⟩⟩
  · have hd := kn_down hp (.inl t1)
    refine ⟨by omega, by omega, fun t3 => ?_, fun t3 => ?_⟩
    · refine ⟨_, rfl, ?_⟩; rw [kn_break hp hd t3]; exact ⟨rfl, rfl, rfl, rfl, rfl, rfl, rfl, rfl⟩
    · exact ⟨p.at (p.q - 1) (p.r + p.y1), kn_next hp hd (by omega), by show (p.q - 1).toNat.succ ≤ p.q.toNat; omega, rfl, rfl, rfl, rfl, rfl, rfl, rfl, rfl, rfl, rfl⟩
  · have hd := kn_down hp (.inr t2)
    refine ⟨by omega, by omega, fun t3 => ?_, fun t3 => ?_⟩
    · refine ⟨_, rfl, ?_⟩; rw [kn_break hp hd t3]; exact ⟨rfl, rfl, rfl, rfl, rfl, rfl, rfl, rfl⟩
    · exact ⟨p.at (p.q - 1) (p.r + p.y1), kn_next hp hd (by omega), by show (p.q - 1).toNat.succ ≤ p.q.toNat; omega, rfl, rfl, rfl, rfl, rfl, rfl, rfl, rfl, rfl, rfl⟩
  · refine ⟨_, rfl, ?_⟩; rw [kn_stop hp (by omega)]; exact ⟨rfl, rfl, rfl, rfl, rfl, rfl, rfl, rfl⟩
theorem kn2_round (p : kn2.St) (hp : kn2.ok p) : Tri Try.prog 0 135 (lp Try.f67 24) (tb (kn2.T p)) (kn2.S p) (kn2.q 0 p) := by
  refine round0 (C := cfgOf []) (ctrs_ok [] rfl rfl) (by kernel_rfl) (by kernel_rfl) (q := (decide ((4294967296 : Int) ≤ p.q) = true → inK IntKind.u64 (p.q - (1 : Int)) ∧ inK IntKind.u64 (p.r + p.y1) ∧ (decide ((4294967296 : Int) ≤ p.r + p.y1) = true → ∃ (a : KnP), a = KnP.mk p.U p.u p.y1 p.y0 p.un0 p.s p.q1 (p.N / p.D) (0 : Int) ∧ D.int IntKind.u64 a.q = D.int IntKind.u64 (p.q - (1 : Int)) ∧ D.int IntKind.u64 a.u = D.int IntKind.u64 p.u ∧ D.int IntKind.u64 a.U = D.int IntKind.u64 p.U ∧ D.int IntKind.u64 a.D = D.int IntKind.u64 p.D ∧ D.int IntKind.u64 a.q1 = D.int IntKind.u64 p.q1 ∧ D.int IntKind.u64 a.s = D.int IntKind.u64 p.s) ∧ (decide ((4294967296 : Int) ≤ p.r + p.y1) = false → ∃ (s' : KnP), ((2147483648 : Int) ≤ s'.y1 ∧ s'.y1 < (4294967296 : Int) ∧ (0 : Int) ≤ s'.y0 ∧ s'.y0 < (4294967296 : Int) ∧ (0 : Int) ≤ s'.u ∧ s'.u < (4294967296 : Int) ∧ (0 : Int) ≤ s'.U ∧ s'.U < s'.D ∧ (0 : Int) ≤ s'.q ∧ s'.q ≤ (4294967297 : Int) ∧ (0 : Int) ≤ s'.r ∧ s'.r < (4294967296 : Int) ∧ s'.q * s'.y1 + s'.r = s'.U ∧ s'.N < (s'.q + (1 : Int)) * s'.D) ∧ s'.q.toNat.succ ≤ p.q.toNat ∧ KnP.mk s'.U s'.u s'.y1 s'.y0 s'.un0 s'.s s'.q1 (s'.N / s'.D) (0 : Int) = KnP.mk p.U p.u p.y1 p.y0 p.un0 p.s p.q1 (p.N / p.D) (0 : Int) ∧ D.int IntKind.u64 s'.q = D.int IntKind.u64 (p.q - (1 : Int)) ∧ D.int IntKind.u64 s'.r = D.int IntKind.u64 (p.r + p.y1) ∧ D.int IntKind.u64 s'.y1 = D.int IntKind.u64 p.y1 ∧ D.int IntKind.u64 s'.y0 = D.int IntKind.u64 p.y0 ∧ D.int IntKind.u64 s'.u = D.int IntKind.u64 p.u ∧ D.int IntKind.u64 s'.U = D.int IntKind.u64 p.U ∧ D.int IntKind.u64 s'.D = D.int IntKind.u64 p.D ∧ D.int IntKind.u64 s'.q1 = D.int IntKind.u64 p.q1 ∧ D.int IntKind.u64 s'.s = D.int IntKind.u64 p.s)) ∧ (decide ((4294967296 : Int) ≤ p.q) = false → inK IntKind.u64 (p.q * p.y0) ∧ inK IntKind.u64 ((4294967296 : Int) * p.r) ∧ inK IntKind.u64 ((4294967296 : Int) * p.r + p.u) ∧ (decide ((4294967296 : Int) * p.r + p.u < p.q * p.y0) = true → inK IntKind.u64 (p.q - (1 : Int)) ∧ inK IntKind.u64 (p.r + p.y1) ∧ (decide ((4294967296 : Int) ≤ p.r + p.y1) = true → ∃ (a : KnP), a = KnP.mk p.U p.u p.y1 p.y0 p.un0 p.s p.q1 (p.N / p.D) (0 : Int) ∧ D.int IntKind.u64 a.q = D.int IntKind.u64 (p.q - (1 : Int)) ∧ D.int IntKind.u64 a.u = D.int IntKind.u64 p.u ∧ D.int IntKind.u64 a.U = D.int IntKind.u64 p.U ∧ D.int IntKind.u64 a.D = D.int IntKind.u64 p.D ∧ D.int IntKind.u64 a.q1 = D.int IntKind.u64 p.q1 ∧ D.int IntKind.u64 a.s = D.int IntKind.u64 p.s) ∧ (decide ((4294967296 : Int) ≤ p.r + p.y1) = false → ∃ (s' : KnP), ((2147483648 : Int) ≤ s'.y1 ∧ s'.y1 < (4294967296 : Int) ∧ (0 : Int) ≤ s'.y0 ∧ s'.y0 < (4294967296 : Int) ∧ (0 : Int) ≤ s'.u ∧ s'.u < (4294967296 : Int) ∧ (0 : Int) ≤ s'.U ∧ s'.U < s'.D ∧ (0 : Int) ≤ s'.q ∧ s'.q ≤ (4294967297 : Int) ∧ (0 : Int) ≤ s'.r ∧ s'.r < (4294967296 : Int) ∧ s'.q * s'.y1 + s'.r = s'.U ∧ s'.N < (s'.q + (1 : Int)) * s'.D) ∧ s'.q.toNat.succ ≤ p.q.toNat ∧ KnP.mk s'.U s'.u s'.y1 s'.y0 s'.un0 s'.s s'.q1 (s'.N / s'.D) (0 : Int) = KnP.mk p.U p.u p.y1 p.y0 p.un0 p.s p.q1 (p.N / p.D) (0 : Int) ∧ D.int IntKind.u64 s'.q = D.int IntKind.u64 (p.q - (1 : Int)) ∧ D.int IntKind.u64 s'.r = D.int IntKind.u64 (p.r + p.y1) ∧ D.int IntKind.u64 s'.y1 = D.int IntKind.u64 p.y1 ∧ D.int IntKind.u64 s'.y0 = D.int IntKind.u64 p.y0 ∧ D.int IntKind.u64 s'.u = D.int IntKind.u64 p.u ∧ D.int IntKind.u64 s'.U = D.int IntKind.u64 p.U ∧ D.int IntKind.u64 s'.D = D.int IntKind.u64 p.D ∧ D.int IntKind.u64 s'.q1 = D.int IntKind.u64 p.q1 ∧ D.int IntKind.u64 s'.s = D.int IntKind.u64 p.s)) ∧ (decide ((4294967296 : Int) * p.r + p.u < p.q * p.y0) = false → ∃ (a : KnP), a = KnP.mk p.U p.u p.y1 p.y0 p.un0 p.s p.q1 (p.N / p.D) (0 : Int) ∧ D.int IntKind.u64 a.q = D.int IntKind.u64 p.q ∧ D.int IntKind.u64 a.u = D.int IntKind.u64 p.u ∧ D.int IntKind.u64 a.U = D.int IntKind.u64 p.U ∧ D.int IntKind.u64 a.D = D.int IntKind.u64 p.D ∧ D.int IntKind.u64 a.q1 = D.int IntKind.u64 p.q1 ∧ D.int IntKind.u64 a.s = D.int IntKind.u64 p.s))) (by kernel_rfl) ?_
  dsimp only [inK]
  have hp : p.ok := hp
  obtain ⟨a1, a2, a3, a4, a5, a6, a7, a8, a9, a10, a11, a12, a13, a14⟩ := id hp
  simp only [decide_eq_true_eq, decide_eq_false_iff_not]
  refine ⟨fun t1 => ?_, fun t1 => ⟨kn_small hp (by omega), by omega, by omega, fun t2 => ?_, fun t2 => ?_⟩⟩
  · have hd := kn_down hp (.inl t1)
    refine ⟨by omega, by omega, fun t3 => ?_, fun t3 => ?_⟩
    · refine ⟨_, rfl, ?_⟩; rw [kn_break hp hd t3]; exact ⟨rfl, rfl, rfl, rfl, rfl, rfl⟩
    · exact ⟨p.at (p.q - 1) (p.r + p.y1), kn_next hp hd (by omega), by show (p.q - 1).toNat.succ ≤ p.q.toNat; omega, rfl, rfl, rfl, rfl, rfl, rfl, rfl, rfl, rfl, rfl⟩
  · have hd := kn_down hp (.inr t2)
    refine ⟨by omega, by omega, fun t3 => ?_, fun t3 => ?_⟩
    · refine ⟨_, rfl, ?_⟩; rw [kn_break hp hd t3]; exact ⟨rfl, rfl, rfl, rfl, rfl, rfl⟩
    · exact ⟨p.at (p.q - 1) (p.r + p.y1), kn_next hp hd (by omega), by show (p.q - 1).toNat.succ ≤ p.q.toNat; omega, rfl, rfl, rfl, rfl, rfl, rfl, rfl, rfl, rfl, rfl⟩
  · refine ⟨_, rfl, ?_⟩; rw [kn_stop hp (by omega)]; exact ⟨rfl, rfl, rfl, rfl, rfl, rfl⟩
theorem shlU {x : Int} {k : Nat} (hk : k ≤ 64) : shlK .u64 x k = (x * 2 ^ k) % 18446744073709551616 := by
  unfold shlK wr
  rw [show min (Int.toNat (k : Int)) (IntKind.bits .u64) = k by rw [Int.toNat_natCast]; exact Nat.min_eq_left hk]
theorem shrU {x : Int} {k : Nat} (hk : k ≤ 64) : shrK .u64 x k = x / 2 ^ k := by
  unfold shrK
  rw [show min (Int.toNat (k : Int)) (IntKind.bits .u64) = k by rw [Int.toNat_natCast]; exact Nat.min_eq_left hk]
theorem or_add {a b : Int} {k : Nat} (ha : 0 ≤ a) (hb : 0 ≤ b) (hbk : b < 2 ^ k) (hs : a * 2 ^ k + b < 18446744073709551616) : orK .u64 (a * 2 ^ k) b = a * 2 ^ k + b := by
  obtain ⟨m, rfl⟩ := Int.eq_ofNat_of_zero_le ha
  obtain ⟨n, rfl⟩ := Int.eq_ofNat_of_zero_le hb
  have hn : n < 2 ^ k := by exact_mod_cast hbk
  have hs' : m * 2 ^ k + n < 2 ^ 64 := by
    have : ((m * 2 ^ k + n : Nat) : Int) < 18446744073709551616 := by push_cast; exact hs
    omega
  have e : ((m : Int) * 2 ^ k) = ((m * 2 ^ k : Nat) : Int) := by push_cast; rfl
  rw [e]
  unfold orK
  have t : ∀ x : Nat, x < 2 ^ 64 → (BitVec.ofInt (IntKind.bits IntKind.u64) (x : Int)).toNat = x := by
    intro x hx
    rw [BitVec.toNat_ofInt]
    show (Int.toNat ((x : Int) % ((2 ^ 64 : Nat) : Int))) = x
    omega
  have e2 : (BitVec.ofInt (IntKind.bits IntKind.u64) ((m * 2 ^ k : Nat) : Int) ||| BitVec.ofInt (IntKind.bits IntKind.u64) (n : Int)).toNat = m * 2 ^ k + n := by
    rw [BitVec.toNat_or, t _ (by omega), t _ (by omega), ← Nat.shiftLeft_eq, Nat.shiftLeft_add_eq_or_of_lt hn]
  rw [e2, ← wr_wrap]
  simp only [wr]
  push_cast
  omega
theorem kn_start (p : KnP) (h1 : 2147483648 ≤ p.y1) (h2 : p.y1 < 4294967296) (h3 : 0 ≤ p.y0) (h4 : p.y0 < 4294967296) (h5 : 0 ≤ p.u) (h6 : p.u < 4294967296) (h7 : 0 ≤ p.U) (h8 : p.U < p.D) :
    0 ≤ p.U / p.y1 * p.y1 ∧ p.U / p.y1 * p.y1 ≤ p.U ∧ (p.at (p.U / p.y1) (p.U - p.U / p.y1 * p.y1)).ok := by
  have hy : 0 < p.y1 := by omega
  have e1 := Int.emod_add_mul_ediv p.U p.y1
  have e2 := Int.emod_nonneg p.U (show p.y1 ≠ 0 by omega)
  have e3 := Int.emod_lt_of_pos p.U hy
  have e4 : 0 ≤ p.U / p.y1 := Int.ediv_nonneg h7 (by omega)
  have e5 := Int.mul_nonneg e4 (show 0 ≤ p.y1 by omega)
  rw [Int.mul_comm p.y1] at e1
  have e6 : p.U / p.y1 < 4294967298 := by
    refine Int.ediv_lt_of_lt_mul hy ?_
    unfold KnP.D at h8
    omega
  have e7 := Int.mul_nonneg (show 0 ≤ p.U / p.y1 + 1 by omega) h3
  refine ⟨e5, by omega, h1, h2, h3, h4, h5, h6, h7, h8, e4, by show p.U / p.y1 ≤ _; omega, by show 0 ≤ p.U - _; omega, by show p.U - _ < _; omega, by show p.U / p.y1 * p.y1 + (p.U - p.U / p.y1 * p.y1) = p.U; omega, ?_⟩
  show p.U * 4294967296 + p.u < (p.U / p.y1 + 1) * (p.y1 * 4294967296 + p.y0)
  rw [Int.mul_add, ← Int.mul_assoc, Int.add_mul, Int.one_mul]
  omega
theorem wr_rem {U u D : Int} (h0 : 0 ≤ U) (h1 : 0 ≤ u) (hD : 0 < D) (hD1 : D < 18446744073709551616) :
    wr .u64 (wr .u64 (wr .u64 (U * 4294967296) + u) - wr .u64 ((U * 4294967296 + u) / D * D)) = (U * 4294967296 + u) % D := by
  have e1 := Int.emod_add_mul_ediv (U * 4294967296 + u) D
  have e2 := Int.emod_nonneg (U * 4294967296 + u) (show D ≠ 0 by omega)
  have e3 := Int.emod_lt_of_pos (U * 4294967296 + u) hD
  rw [Int.mul_comm D] at e1
  simp only [wr]
  generalize (U * 4294967296 + u) / D * D = Z at *
  generalize (U * 4294967296 + u) % D = Y at *
  omega
theorem div_fun {hi lo y : Int} (h0 : 0 ≤ hi) (hl0 : 0 ≤ lo) (hl1 : lo < 18446744073709551616) (hy : hi < y) (hy1 : y < 18446744073709551616) :
    DataFun Try.prog 67 [.int .u64 hi, .int .u64 lo, .int .u64 y] (.tup [.int .u64 ((hi * 18446744073709551616 + lo) / y), .int .u64 ((hi * 18446744073709551616 + lo) % y)]) := by
  refine dataFunL (C := divCfg) (ctrs_ok [lzC] rfl rfl) rfl Try.func67 (by kernel_rfl) (l := [lp Try.f67 17, lp Try.f67 24]) (by kernel_rfl) ?_ rfl rfl (q := (decide (y = (0 : Int)) = true → False) ∧ (decide (y = (0 : Int)) = false → (decide (y ≤ hi) = true → False) ∧ (decide (y ≤ hi) = false → (decide (hi = (0 : Int)) = true → (0 : Int) ≤ lo ∧ (0 : Int) < y ∧ inK IntKind.u64 lo ∧ (0 : Int) ≤ lo ∧ (0 : Int) < y ∧ D.tup [D.int IntKind.u64 (lo / y), D.int IntKind.u64 (lo % y)] = D.tup [D.int IntKind.u64 ((hi * (18446744073709551616 : Int) + lo) / y), D.int IntKind.u64 ((hi * (18446744073709551616 : Int) + lo) % y)]) ∧ (decide (hi = (0 : Int)) = false → ((1 : Int) ≤ y ∧ y < (18446744073709551616 : Int)) ∧ inK IntKind.u64 ((64 : Int) - lenI y) ∧ (0 : Int) ≤ (64 : Int) - lenI y ∧ ∀ (v : Int), v = shlK IntKind.u64 y ((64 : Int) - lenI y) → (0 : Int) ≤ (32 : Int) ∧ ∀ (v_1 : Int), v_1 = shrK IntKind.u64 v (32 : Int) → ∀ (v_2 : Int), v_2 = andK IntKind.u64 v (4294967295 : Int) → (0 : Int) ≤ (64 : Int) - lenI y ∧ ∀ (v_3 : Int), v_3 = shlK IntKind.u64 hi ((64 : Int) - lenI y) → inK IntKind.u64 ((64 : Int) - ((64 : Int) - lenI y)) ∧ (0 : Int) ≤ (64 : Int) - ((64 : Int) - lenI y) ∧ ∀ (v_4 : Int), v_4 = shrK IntKind.u64 lo ((64 : Int) - ((64 : Int) - lenI y)) → ∀ (v_5 : Int), v_5 = orK IntKind.u64 v_3 v_4 → (0 : Int) ≤ (64 : Int) - lenI y ∧ ∀ (v_6 : Int), v_6 = shlK IntKind.u64 lo ((64 : Int) - lenI y) → (0 : Int) ≤ (32 : Int) ∧ ∀ (v_7 : Int), v_7 = shrK IntKind.u64 v_6 (32 : Int) → ∀ (v_8 : Int), v_8 = andK IntKind.u64 v_6 (4294967295 : Int) → (0 : Int) ≤ v_5 ∧ (0 : Int) < v_1 ∧ inK IntKind.u64 v_5 ∧ ∀ (v_9 : Int), v_9 = v_5 / v_1 → inK IntKind.u64 (v_9 * v_1) ∧ inK IntKind.u64 (v_5 - v_9 * v_1) ∧ ∀ (v_10 : Int), v_10 = v_5 - v_9 * v_1 → ∃ (b : KnP), ((2147483648 : Int) ≤ b.y1 ∧ b.y1 < (4294967296 : Int) ∧ (0 : Int) ≤ b.y0 ∧ b.y0 < (4294967296 : Int) ∧ (0 : Int) ≤ b.u ∧ b.u < (4294967296 : Int) ∧ (0 : Int) ≤ b.U ∧ b.U < b.D ∧ (0 : Int) ≤ b.q ∧ b.q ≤ (4294967297 : Int) ∧ (0 : Int) ≤ b.r ∧ b.r < (4294967296 : Int) ∧ b.q * b.y1 + b.r = b.U ∧ b.N < (b.q + (1 : Int)) * b.D) ∧ (D.int IntKind.u64 b.q = D.int IntKind.u64 v_9 ∧ D.int IntKind.u64 b.r = D.int IntKind.u64 v_10 ∧ D.int IntKind.u64 b.y1 = D.int IntKind.u64 v_1 ∧ D.int IntKind.u64 b.y0 = D.int IntKind.u64 v_2 ∧ D.int IntKind.u64 b.u = D.int IntKind.u64 v_7 ∧ D.int IntKind.u64 b.U = D.int IntKind.u64 v_5 ∧ D.int IntKind.u64 b.D = D.int IntKind.u64 v ∧ D.int IntKind.u64 b.un0 = D.int IntKind.u64 v_8 ∧ D.int IntKind.u64 b.s = D.int IntKind.u64 ((64 : Int) - lenI y)) ∧ ∀ (a : KnP), a = KnP.mk b.U b.u b.y1 b.y0 b.un0 b.s b.q1 (b.N / b.D) (0 : Int) → ∀ (v : Int), v = wr IntKind.u64 (wr IntKind.u64 (wr IntKind.u64 (a.U * (4294967296 : Int)) + a.u) - wr IntKind.u64 (a.q * a.D)) → (0 : Int) ≤ v ∧ (0 : Int) < a.y1 ∧ inK IntKind.u64 v ∧ ∀ (v_11 : Int), v_11 = v / a.y1 → inK IntKind.u64 (v_11 * a.y1) ∧ inK IntKind.u64 (v - v_11 * a.y1) ∧ ∀ (v_12 : Int), v_12 = v - v_11 * a.y1 → ∃ (b : KnP), ((2147483648 : Int) ≤ b.y1 ∧ b.y1 < (4294967296 : Int) ∧ (0 : Int) ≤ b.y0 ∧ b.y0 < (4294967296 : Int) ∧ (0 : Int) ≤ b.u ∧ b.u < (4294967296 : Int) ∧ (0 : Int) ≤ b.U ∧ b.U < b.D ∧ (0 : Int) ≤ b.q ∧ b.q ≤ (4294967297 : Int) ∧ (0 : Int) ≤ b.r ∧ b.r < (4294967296 : Int) ∧ b.q * b.y1 + b.r = b.U ∧ b.N < (b.q + (1 : Int)) * b.D) ∧ (D.int IntKind.u64 b.q = D.int IntKind.u64 v_11 ∧ D.int IntKind.u64 b.r = D.int IntKind.u64 v_12 ∧ D.int IntKind.u64 b.y1 = D.int IntKind.u64 a.y1 ∧ D.int IntKind.u64 b.y0 = D.int IntKind.u64 a.y0 ∧ D.int IntKind.u64 b.u = D.int IntKind.u64 a.un0 ∧ D.int IntKind.u64 b.U = D.int IntKind.u64 v ∧ D.int IntKind.u64 b.D = D.int IntKind.u64 a.D ∧ D.int IntKind.u64 b.q1 = D.int IntKind.u64 a.q ∧ D.int IntKind.u64 b.s = D.int IntKind.u64 a.s) ∧ ∀ (a : KnP), a = KnP.mk b.U b.u b.y1 b.y0 b.un0 b.s b.q1 (b.N / b.D) (0 : Int) → inK IntKind.u64 (a.q1 * (4294967296 : Int)) ∧ inK IntKind.u64 (a.q1 * (4294967296 : Int) + a.q) ∧ ∀ (v : Int), v = wr IntKind.u64 (wr IntKind.u64 (wr IntKind.u64 (a.U * (4294967296 : Int)) + a.u) - wr IntKind.u64 (a.q * a.D)) → (0 : Int) ≤ a.s ∧ ∀ (v_13 : Int), v_13 = shrK IntKind.u64 v a.s → D.tup [D.int IntKind.u64 (a.q1 * (4294967296 : Int) + a.q), D.int IntKind.u64 v_13] = D.tup [D.int IntKind.u64 ((hi * (18446744073709551616 : Int) + lo) / y), D.int IntKind.u64 ((hi * (18446744073709551616 : Int) + lo) % y)])))) (by kernel_rfl) ?_
  · intro x hx
    rcases List.mem_cons.1 hx with rfl | hx
    · exact kn1.fits 17 [] (by kernel_rfl) rfl kn1_round
    · rw [List.mem_singleton.1 hx]; exact kn2.fits 24 [] (by kernel_rfl) rfl kn2_round
  dsimp only [inK]
  simp only [decide_eq_true_eq, decide_eq_false_iff_not]
  refine ⟨fun h => by omega, fun _ => ⟨fun h => by omega, fun _ => ⟨fun h => ?_, fun hhi => ?_⟩⟩⟩
  · subst h
    refine ⟨hl0, by omega, by omega, hl0, by omega, ?_⟩
    rw [Int.zero_mul, Int.zero_add]
  obtain ⟨n, en, n1, n2, up1, up2⟩ := lenI_ok (x := y) (by omega) hy1
  obtain ⟨k, hk⟩ : ∃ k : Nat, n + k = 64 := ⟨64 - n, by omega⟩
  have ek : (64 : Int) - lenI y = (k : Int) := by omega
  have ekn : 64 - n = k := by omega
  have ekn2 : (64 : Int) - (k : Int) = (n : Int) := by omega
  rw [ekn] at up1 up2
  have hEE : (2 : Int) ^ k * 2 ^ n = 18446744073709551616 := by rw [← Int.pow_add, show k + n = 64 by omega]; rfl
  have hE : (1 : Int) ≤ 2 ^ k := by have h : (0 : Int) < 2 ^ k := Int.pow_pos (by decide); omega
  have hF : (1 : Int) ≤ 2 ^ n := by have h : (0 : Int) < 2 ^ n := Int.pow_pos (by decide); omega
  rw [ek, ekn2]
  simp only [shlU (show k ≤ 64 by omega), shrU (show n ≤ 64 by omega)]
  generalize hEd : (2 : Int) ^ k = E at *
  generalize hFd : (2 : Int) ^ n = F at *
  have hvE : y * E % 18446744073709551616 = y * E := by omega
  have hhE : hi * E + E ≤ y * E := by
    have := Int.mul_le_mul_of_nonneg_right (show hi + 1 ≤ y by omega) (show 0 ≤ E by omega)
    rw [Int.add_mul, Int.one_mul] at this
    exact this
  have hhE0 : 0 ≤ hi * E := Int.mul_nonneg h0 (by omega)
  have hhm : hi * E % 18446744073709551616 = hi * E := by omega
  have hq0 : 0 ≤ lo / F := Int.ediv_nonneg hl0 (by omega)
  have hq1 : lo / F < E := Int.ediv_lt_of_lt_mul (by omega) (by rw [hEE]; exact hl1)
  have hor : orK .u64 (hi * E) (lo / F) = hi * E + lo / F := by
    rw [← hEd]
    exact or_add h0 hq0 (by rw [hEd]; exact hq1) (by rw [hEd]; omega)
  have hlE : lo * E = lo / F * 18446744073709551616 + lo * E % 18446744073709551616 := by
    have e1 := Int.emod_add_mul_ediv (lo * E) 18446744073709551616
    have e2 : lo * E / 18446744073709551616 = lo / F := by
      rw [← hEE, Int.mul_comm lo E]
      exact Int.mul_ediv_mul_of_pos lo F (by omega)
    rw [e2] at e1
    omega
  have hk0 : (0 : Int) ≤ (k : Int) := by omega
  have hn0 : (0 : Int) ≤ (n : Int) := by omega
  rw [hvE, hhm]
  have hl6 : 0 ≤ lo * E % 18446744073709551616 ∧ lo * E % 18446744073709551616 < 18446744073709551616 := by omega
  generalize hl6d : lo * E % 18446744073709551616 = l6 at *
  have hyE : (y * E) = (y * E) / 4294967296 * 4294967296 + (y * E) % 4294967296 := by omega
  refine ⟨⟨by omega, hy1⟩, by omega, hk0, ?_⟩
  rintro v rfl
  refine ⟨by decide, ?_⟩
  intro v1 hv1
  rw [shr32] at hv1
  intro v2 hv2
  rw [and32 (by omega) (by omega)] at hv2
  refine ⟨hk0, ?_⟩
  rintro v3 rfl
  refine ⟨by omega, hn0, ?_⟩
  rintro v4 rfl v5 hv5
  rw [hor] at hv5
  refine ⟨hk0, ?_⟩
  rintro v6 rfl
  refine ⟨by decide, ?_⟩
  intro v7 hv7
  rw [shr32] at hv7
  intro v8 hv8
  rw [and32 hl6.1 hl6.2] at hv8
  have hDv : v1 * 4294967296 + v2 = y * E := by omega
  -- the first step
  obtain ⟨s1, s2, s3⟩ := kn_start { U := v5, u := v7, y1 := v1, y0 := v2, un0 := v8, s := k, q1 := 0, q := 0, r := 0 } (by simp only; omega) (by simp only; omega) (by simp only; omega) (by simp only; omega) (by simp only; omega) (by simp only; omega) (by simp only; omega) (by unfold KnP.D; simp only; omega)
  simp only at s1 s2
  refine ⟨by omega, by omega, by omega, ?_⟩
  rintro v9 rfl
  refine ⟨⟨s1, by omega⟩, by omega, ?_⟩
  rintro v10 rfl
  refine ⟨_, s3, ⟨rfl, rfl, rfl, rfl, rfl, rfl, by simp only [KnP.D, KnP.at]; rw [hDv], rfl, rfl⟩, ?_⟩
  rintro a1 ha1
  have eU : a1.U = v5 := by rw [ha1]; rfl
  have eu : a1.u = v7 := by rw [ha1]; rfl
  have ey1 : a1.y1 = v1 := by rw [ha1]; rfl
  have ey0 : a1.y0 = v2 := by rw [ha1]; rfl
  have eun : a1.un0 = v8 := by rw [ha1]; rfl
  have es : a1.s = k := by rw [ha1]; rfl
  have eD : a1.D = y * E := by unfold KnP.D; rw [ey1, ey0, hDv]
  have eq : a1.q = (v5 * 4294967296 + v7) / (y * E) := by rw [ha1]; simp only [KnP.at, KnP.N, KnP.D]; rw [hDv]
  rw [eU, eu, eq, eD, eun, es, ey1, ey0]
  clear ha1
  rw [wr_rem (by omega) (by omega) (by omega) (by omega)]
  have m1 := Int.emod_add_mul_ediv (v5 * 4294967296 + v7) (y * E)
  have m2 := Int.emod_nonneg (v5 * 4294967296 + v7) (show y * E ≠ 0 by omega)
  have m3 := Int.emod_lt_of_pos (v5 * 4294967296 + v7) (show 0 < y * E by omega)
  have m4 : 0 ≤ (v5 * 4294967296 + v7) / (y * E) := Int.ediv_nonneg (by omega) (by omega)
  have m5 : (v5 * 4294967296 + v7) / (y * E) < 4294967296 := Int.ediv_lt_of_lt_mul (by omega) (by omega)
  intro u2 hu2
  rw [← hu2] at m1 m2 m3
  generalize (v5 * 4294967296 + v7) / (y * E) = Q1 at *
  -- the second step
  obtain ⟨t1, t2, t3⟩ := kn_start { U := u2, u := v8, y1 := v1, y0 := v2, un0 := v8, s := k, q1 := Q1, q := 0, r := 0 } (by simp only; omega) (by simp only; omega) (by simp only; omega) (by simp only; omega) (by simp only; omega) (by simp only; omega) (by simp only; omega) (by unfold KnP.D; simp only; omega)
  simp only at t1 t2
  refine ⟨by omega, by omega, by omega, ?_⟩
  rintro v11 rfl
  refine ⟨⟨t1, by omega⟩, by omega, ?_⟩
  rintro v12 rfl
  refine ⟨_, t3, ⟨rfl, rfl, rfl, rfl, rfl, rfl, by simp only [KnP.D, KnP.at]; rw [hDv], rfl, rfl⟩, ?_⟩
  rintro a2 ha2
  have fU : a2.U = u2 := by rw [ha2]; rfl
  have fu : a2.u = v8 := by rw [ha2]; rfl
  have fq1 : a2.q1 = Q1 := by rw [ha2]; rfl
  have fs : a2.s = k := by rw [ha2]; rfl
  have fD : a2.D = y * E := by rw [ha2]; simp only [KnP.D, KnP.at]; rw [hDv]
  have fq : a2.q = (u2 * 4294967296 + v8) / (y * E) := by rw [ha2]; simp only [KnP.at, KnP.N, KnP.D]; rw [hDv]
  rw [fU, fu, fq, fD, fq1, fs]
  clear ha2
  rw [wr_rem (by omega) (by omega) (by omega) (by omega)]
  have k1 := Int.emod_add_mul_ediv (u2 * 4294967296 + v8) (y * E)
  have k2 := Int.emod_nonneg (u2 * 4294967296 + v8) (show y * E ≠ 0 by omega)
  have k3 := Int.emod_lt_of_pos (u2 * 4294967296 + v8) (show 0 < y * E by omega)
  have k4 : 0 ≤ (u2 * 4294967296 + v8) / (y * E) := Int.ediv_nonneg (by omega) (by omega)
  have k5 : (u2 * 4294967296 + v8) / (y * E) < 4294967296 := Int.ediv_lt_of_lt_mul (by omega) (by omega)
  refine ⟨by omega, by omega, ?_⟩
  intro w hw
  rw [← hw] at k1 k2 k3
  generalize (u2 * 4294967296 + v8) / (y * E) = Q0 at *
  refine ⟨hk0, ?_⟩
  intro z hz
  rw [shrU (show k ≤ 64 by omega), hEd] at hz
  -- all together
  have tot : (hi * 18446744073709551616 + lo) * E = (Q1 * 4294967296 + Q0) * (y * E) + w := by
    have p1 : (hi * 18446744073709551616 + lo) * E = hi * E * 18446744073709551616 + lo * E := by rw [Int.add_mul, Int.mul_assoc, Int.mul_comm _ E, ← Int.mul_assoc]
    have p2 : (Q1 * 4294967296 + Q0) * (y * E) = y * E * Q1 * 4294967296 + y * E * Q0 := by rw [Int.add_mul, Int.mul_comm (Q1 * 4294967296), ← Int.mul_assoc, Int.mul_comm Q0]
    rw [p1, p2, hlE]
    omega
  have d1 : (hi * 18446744073709551616 + lo) / y = Q1 * 4294967296 + Q0 := by
    rw [← Int.mul_ediv_mul_of_pos_left _ y (show 0 < E by omega), tot]
    exact div_of (by omega) (by omega) (by rw [Int.add_mul _ 1, Int.one_mul]; omega)
  have d2 : w = (hi * 18446744073709551616 + lo) % y * E := by
    have q1 := Int.emod_add_mul_ediv (hi * 18446744073709551616 + lo) y
    rw [d1] at q1
    have q2 : (hi * 18446744073709551616 + lo) * E = ((hi * 18446744073709551616 + lo) % y + y * (Q1 * 4294967296 + Q0)) * E := by rw [q1]
    have q3 : ((hi * 18446744073709551616 + lo) % y + y * (Q1 * 4294967296 + Q0)) * E = (hi * 18446744073709551616 + lo) % y * E + (Q1 * 4294967296 + Q0) * (y * E) := by rw [Int.add_mul, Int.mul_comm y (Q1 * 4294967296 + Q0), Int.mul_assoc]
    rw [q3, tot] at q2
    generalize (Q1 * 4294967296 + Q0) * (y * E) = Z at *
    omega
  have d3 : z = (hi * 18446744073709551616 + lo) % y := by rw [hz, d2]; exact Int.mul_ediv_cancel _ (by omega)
  rw [d1, ← d3]
def divC : Ctr := ⟨67, fun vs => match vs with | [.int .u64 hi, .int .u64 lo, .int .u64 y] => some ⟨0 ≤ hi ∧ 0 ≤ lo ∧ lo < 18446744073709551616 ∧ hi < y ∧ y < 18446744073709551616, .tup [.int .u64 ((hi * 18446744073709551616 + lo) / y), .int .u64 ((hi * 18446744073709551616 + lo) % y)]⟩ | _ => none, by
  intro vs o ho hp
  split at ho
  · injection ho with ho; subst ho; obtain ⟨a, b, c, d, e1⟩ := hp; exact div_fun a b c d e1
  · cases ho⟩
end Go.Proofs.Ytfclelafcdcilaa.Dv
