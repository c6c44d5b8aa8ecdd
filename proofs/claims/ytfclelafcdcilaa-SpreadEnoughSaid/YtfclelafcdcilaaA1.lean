/- Products of 64 bits. -/
import Derived.Test.YtfclelafcdcilaaA0
set_option linter.unusedVariables false
set_option linter.unusedSimpArgs false
namespace Go.Proofs.Ytfclelafcdcilaa.Dv
open Go Go.Proofs
def mulH : List (Nat × Hn) := [(15, .n), (17, .n), (19, .n), (21, .n), (24, .n), (27, .n), (29, .n), (30, .n), (32, .n), (34, .n), (38, .n), (39, .n), (42, .n), (44, .n), (46, .n), (47, .n), (50, .w)]

theorem and32 {x : Int} (h1 : 0 ≤ x) (h2 : x < 18446744073709551616) : andK .u64 x 4294967295 = x % 4294967296 := by
  show IntKind.wrap IntKind.u64 ↑(BitVec.toNat (BitVec.ofInt (IntKind.bits IntKind.u64) x &&& BitVec.ofInt (IntKind.bits IntKind.u64) (4294967295 : Int))) = x % 4294967296
  obtain ⟨n, rfl⟩ := Int.eq_ofNat_of_zero_le h1
  have hn : n < 2 ^ 64 := by omega
  have e1 : (BitVec.ofInt (IntKind.bits IntKind.u64) (n : Int) &&& BitVec.ofInt (IntKind.bits IntKind.u64) (4294967295 : Int)).toNat = n % 2 ^ 32 := by
    rw [BitVec.toNat_and]
    have a1 : (BitVec.ofInt (IntKind.bits IntKind.u64) (n : Int)).toNat = n := by
      rw [BitVec.toNat_ofInt]
      show (Int.toNat ((n : Int) % ((2 ^ 64 : Nat) : Int))) = n
      omega
    have a2 : (BitVec.ofInt (IntKind.bits IntKind.u64) (4294967295 : Int)).toNat = 2 ^ 32 - 1 := by decide
    rw [a1, a2, Nat.and_two_pow_sub_one_eq_mod]
  rw [e1, ← wr_wrap]; simp only [wr]
  omega
theorem shr32 (x : Int) : shrK .u64 x 32 = x / 4294967296 := rfl
theorem mul_le {a b A B : Int} (ha : 0 ≤ a) (hb : 0 ≤ b) (h1 : a ≤ A) (h2 : b ≤ B) : a * b ≤ A * B := Int.mul_le_mul h1 h2 hb (by omega)
theorem mul_val {x0 x1 y0 y1 w0 t w1 w2 : Int} (a0 : 0 ≤ x0) (a1 : x0 ≤ 4294967295) (b0 : 0 ≤ x1) (b1 : x1 ≤ 4294967295) (c0 : 0 ≤ y0) (c1 : y0 ≤ 4294967295) (d0 : 0 ≤ y1) (d1 : y1 ≤ 4294967295)
    (hw0 : w0 = x0 * y0) (ht : t = x1 * y0 + w0 / 4294967296) (hw1 : w1 = t % 4294967296 + x0 * y1) (hw2 : w2 = t / 4294967296) :
    0 ≤ w0 ∧ w0 ≤ 18446744065119617025 ∧ 0 ≤ x1 * y0 ∧ x1 * y0 ≤ 18446744065119617025 ∧ 0 ≤ x0 * y1 ∧ x0 * y1 ≤ 18446744065119617025 ∧ 0 ≤ x1 * y1 ∧ x1 * y1 ≤ 18446744065119617025 ∧
    (x1 * 4294967296 + x0) * (y1 * 4294967296 + y0) = (x1 * y1 + w2 + w1 / 4294967296) * 18446744073709551616 + ((w1 % 4294967296) * 4294967296 + w0 % 4294967296) := by
  have p1 := mul_le a0 c0 a1 c1
  have p2 := mul_le b0 c0 b1 c1
  have p3 := mul_le a0 d0 a1 d1
  have p4 := mul_le b0 d0 b1 d1
  have n1 := Int.mul_nonneg a0 c0
  have n2 := Int.mul_nonneg b0 c0
  have n3 := Int.mul_nonneg a0 d0
  have n4 := Int.mul_nonneg b0 d0
  have e : (x1 * 4294967296 + x0) * (y1 * 4294967296 + y0) = x1 * y1 * 18446744073709551616 + (x1 * y0 + x0 * y1) * 4294967296 + x0 * y0 := by
    simp only [Int.add_mul, Int.mul_add]
    have r1 : x1 * 4294967296 * (y1 * 4294967296) = x1 * y1 * 18446744073709551616 := by rw [Int.mul_comm y1, Int.mul_assoc, ← Int.mul_assoc 4294967296, Int.mul_comm (4294967296 * 4294967296), ← Int.mul_assoc]; rfl
    have r2 : x1 * 4294967296 * y0 = x1 * y0 * 4294967296 := by rw [Int.mul_assoc, Int.mul_comm 4294967296, ← Int.mul_assoc]
    have r3 : x0 * (y1 * 4294967296) = x0 * y1 * 4294967296 := by rw [← Int.mul_assoc]
    rw [r1, r2, r3]
    omega
  rw [e]
  generalize x0 * y0 = a at *
  generalize x1 * y0 = b at *
  generalize x0 * y1 = c at *
  generalize x1 * y1 = d at *
  subst hw0 ht hw1 hw2
  omega
theorem mul_fun {x y : Int} (hx0 : 0 ≤ x) (hx1 : x < 18446744073709551616) (hy0 : 0 ≤ y) (hy1 : y < 18446744073709551616) :
    DataFun Try.prog 49 [.int .u64 x, .int .u64 y] (.tup [.int .u64 (x * y / 18446744073709551616), .int .u64 (x * y % 18446744073709551616)]) := by
  refine dataFun0 (C := cfgH [] mulH) (ctrs_ok [] rfl rfl) rfl Try.func49 (by kernel_rfl) (by kernel_rfl) rfl rfl (q := ∀ (v : Int), v = andK IntKind.u64 x (4294967295 : Int) → (0 : Int) ≤ (32 : Int) ∧ ∀ (v_1 : Int), v_1 = shrK IntKind.u64 x (32 : Int) → ∀ (v_2 : Int), v_2 = andK IntKind.u64 y (4294967295 : Int) → (0 : Int) ≤ (32 : Int) ∧ ∀ (v_3 : Int), v_3 = shrK IntKind.u64 y (32 : Int) → inK IntKind.u64 (v * v_2) ∧ ∀ (v_4 : Int), v_4 = v * v_2 → inK IntKind.u64 (v_1 * v_2) ∧ ∀ (v_5 : Int), v_5 = v_1 * v_2 → (0 : Int) ≤ (32 : Int) ∧ ∀ (v_6 : Int), v_6 = shrK IntKind.u64 v_4 (32 : Int) → inK IntKind.u64 (v_5 + v_6) ∧ ∀ (v_7 : Int), v_7 = v_5 + v_6 → ∀ (v_8 : Int), v_8 = andK IntKind.u64 v_7 (4294967295 : Int) → (0 : Int) ≤ (32 : Int) ∧ ∀ (v_9 : Int), v_9 = shrK IntKind.u64 v_7 (32 : Int) → inK IntKind.u64 (v * v_3) ∧ ∀ (v_10 : Int), v_10 = v * v_3 → inK IntKind.u64 (v_8 + v_10) ∧ ∀ (v : Int), v = v_8 + v_10 → inK IntKind.u64 (v_1 * v_3) ∧ ∀ (v_11 : Int), v_11 = v_1 * v_3 → inK IntKind.u64 (v_11 + v_9) ∧ ∀ (v_12 : Int), v_12 = v_11 + v_9 → (0 : Int) ≤ (32 : Int) ∧ ∀ (v_13 : Int), v_13 = shrK IntKind.u64 v (32 : Int) → inK IntKind.u64 (v_12 + v_13) ∧ ∀ (v : Int), v = v_12 + v_13 → D.tup [D.int IntKind.u64 v, D.int IntKind.u64 (wr IntKind.u64 (x * y))] = D.tup [D.int IntKind.u64 (x * y / (18446744073709551616 : Int)), D.int IntKind.u64 (x * y % (18446744073709551616 : Int))]) (by kernel_rfl) ?_
  dsimp only [inK]
  intro x0 hx0'; refine ⟨by decide, ?_⟩; intro x1 hx1' y0 hy0'; refine ⟨by decide, ?_⟩; intro y1 hy1'
  rw [and32 hx0 hx1] at hx0'
  rw [shr32] at hx1'
  rw [and32 hy0 hy1] at hy0'
  rw [shr32] at hy1'
  have hx : x = x1 * 4294967296 + x0 := by omega
  have hy : y = y1 * 4294967296 + y0 := by omega
  have := mul_val (x0 := x0) (x1 := x1) (y0 := y0) (y1 := y1) (by omega) (by omega) (by omega) (by omega) (by omega) (by omega) (by omega) (by omega) rfl rfl rfl rfl
  obtain ⟨k1, k2, k3, k4, k5, k6, k7, k8, k9⟩ := this
  refine ⟨by omega, ?_⟩; intro w0 hw0
  refine ⟨by omega, ?_⟩; intro m1 hm1
  refine ⟨by decide, ?_⟩; intro s1 hs1
  rw [shr32] at hs1
  have hw0' : w0 / 4294967296 ≤ 4294967294 := by omega
  refine ⟨by omega, ?_⟩; intro t ht
  intro w1 hw1
  rw [and32 (by omega) (by omega)] at hw1
  refine ⟨by decide, ?_⟩; intro w2 hw2
  rw [shr32] at hw2
  refine ⟨by omega, ?_⟩; intro m2 hm2
  refine ⟨by omega, ?_⟩; intro v1 hv1
  refine ⟨by omega, ?_⟩; intro m3 hm3
  subst hm1 hs1 hw0 ht hw1 hw2 hm2 hv1 hm3
  have k10 : 0 ≤ x1 * y1 + (x1 * y0 + x0 * y0 / 4294967296) / 4294967296 + ((x1 * y0 + x0 * y0 / 4294967296) % 4294967296 + x0 * y1) / 4294967296 := by omega
  have k11 : x1 * y1 + (x1 * y0 + x0 * y0 / 4294967296) / 4294967296 + ((x1 * y0 + x0 * y0 / 4294967296) % 4294967296 + x0 * y1) / 4294967296 ≤ 18446744073709551615 := by
    have hxy : x * y ≤ 18446744073709551615 * 18446744073709551615 := mul_le hx0 hy0 (by omega) (by omega)
    rw [hx, hy, k9] at hxy
    omega
  refine ⟨by omega, ?_⟩; intro v2 hv2
  refine ⟨by decide, ?_⟩; intro v3 hv3
  rw [shr32] at hv3
  refine ⟨by omega, ?_⟩; intro v4 hv4
  rw [hx, hy, k9]
  simp only [D.tup.injEq, List.cons.injEq, D.int.injEq, true_and, and_true, wr]
  omega
def mulC : Ctr := ⟨49, fun vs => match vs with | [.int .u64 x, .int .u64 y] => some ⟨(0 ≤ x ∧ x < 18446744073709551616) ∧ 0 ≤ y ∧ y < 18446744073709551616, .tup [.int .u64 (x * y / 18446744073709551616), .int .u64 (x * y % 18446744073709551616)]⟩ | _ => none, by
  intro vs o ho hp
  split at ho
  · injection ho with ho; subst ho; exact mul_fun hp.1.1 hp.1.2 hp.2.1 hp.2.2
  · cases ho⟩
end Go.Proofs.Ytfclelafcdcilaa.Dv
