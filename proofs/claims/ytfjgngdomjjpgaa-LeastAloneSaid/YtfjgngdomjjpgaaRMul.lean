/- Products of two 64-bit numbers. -/
import Derived.Test.YtfjgngdomjjpgaaRDraw
set_option linter.unusedVariables false
set_option linter.unusedSimpArgs false
namespace Go.Proofs.Ytfjgngdomjjpgaa.Dv
open Go Go.Proofs
theorem and32 {x : Int} (h1 : 0 ≤ x) (h2 : x < 18446744073709551616) : IntKind.wrap IntKind.u64 ↑(BitVec.toNat (BitVec.ofInt (IntKind.bits IntKind.u64) x &&& BitVec.ofInt (IntKind.bits IntKind.u64) (4294967295 : Int))) = x % 4294967296 := by
  obtain ⟨n, rfl⟩ := Int.eq_ofNat_of_zero_le h1
  have hn : n < 2 ^ 64 := by omega
  have e1 : (BitVec.ofInt (IntKind.bits IntKind.u64) (n : Int) &&& BitVec.ofInt (IntKind.bits IntKind.u64) (4294967295 : Int)).toNat = n % 2 ^ 32 := by
    rw [BitVec.toNat_and]
    have a1 : (BitVec.ofInt (IntKind.bits IntKind.u64) (n : Int)).toNat = n := by
      rw [BitVec.toNat_ofInt]
      show (Int.toNat ((n : Int) % ((2 ^ 64 : Nat) : Int))) = n
      omega
    have a2 : (BitVec.ofInt (IntKind.bits IntKind.u64) (4294967295 : Int)).toNat = 2 ^ 32 - 1 := by decide
    rw [a1, a2, Nat.and_two_pow_sub_one_eq_mod]
  rw [e1, wrapU]
  omega
theorem shr32 (x : Int) : Int.fdiv x ((2 : Int) ^ min (Int.toNat (32 : Int)) (IntKind.bits IntKind.u64)) = x / 4294967296 := by
  have : ((2 : Int) ^ min (Int.toNat (32 : Int)) (IntKind.bits IntKind.u64)) = 4294967296 := by decide
  rw [this, Int.fdiv_eq_ediv_of_nonneg _ (by decide)]
theorem mul_hi {x y x0 x1 y0 y1 : Int} (hx : x = x1 * 4294967296 + x0) (hy : y = y1 * 4294967296 + y0) (a0 : 0 ≤ x0) (a1 : x0 ≤ 4294967295) (b0 : 0 ≤ x1) (b1 : x1 ≤ 4294967295) (c0 : 0 ≤ y0) (c1 : y0 ≤ 4294967295) (d0 : 0 ≤ y1) (d1 : y1 ≤ 4294967295) :
    0 ≤ x0 * y0 ∧ x0 * y0 ≤ 18446744065119617025 ∧ 0 ≤ x1 * y0 ∧ x1 * y0 ≤ 18446744065119617025 ∧ 0 ≤ x0 * y1 ∧ x0 * y1 ≤ 18446744065119617025 ∧ 0 ≤ x1 * y1 ∧ x1 * y1 ≤ 18446744065119617025 ∧
    x * y = x1 * y1 * 18446744073709551616 + (x1 * y0 + x0 * y1) * 4294967296 + x0 * y0 := by
  have m : ∀ {p q : Int}, 0 ≤ p → p ≤ 4294967295 → 0 ≤ q → q ≤ 4294967295 → 0 ≤ p * q ∧ p * q ≤ 18446744065119617025 := fun {p q} h1 h2 h3 h4 =>
    ⟨Int.mul_nonneg h1 h3, by have := Int.mul_le_mul h2 h4 h3 (by decide); omega⟩
  have h00 := m a0 a1 c0 c1
  have h10 := m b0 b1 c0 c1
  have h01 := m a0 a1 d0 d1
  have h11 := m b0 b1 d0 d1
  refine ⟨h00.1, h00.2, h10.1, h10.2, h01.1, h01.2, h11.1, h11.2, ?_⟩
  rw [hx, hy, Int.add_mul, Int.mul_add, Int.mul_add]
  have e1 : x1 * 4294967296 * (y1 * 4294967296) = x1 * y1 * 18446744073709551616 := by
    rw [Int.mul_assoc, ← Int.mul_assoc 4294967296 y1, Int.mul_comm 4294967296 y1, Int.mul_assoc y1, ← Int.mul_assoc]; rfl
  have e2 : x1 * 4294967296 * y0 = x1 * y0 * 4294967296 := by rw [Int.mul_assoc, Int.mul_comm 4294967296 y0, ← Int.mul_assoc]
  have e3 : x0 * (y1 * 4294967296) = x0 * y1 * 4294967296 := by rw [← Int.mul_assoc]
  rw [e1, e2, e3]
  omega
theorem calm76 : calmFn Try.f76 = true := by kernel_rfl
theorem mul_fun {x y : Int} (hx0 : 0 ≤ x) (hx1 : x < 18446744073709551616) (hy0 : 0 ≤ y) (hy1 : y < 18446744073709551616) :
    Fun Try.prog M1 76 [.int .u64 x, .int .u64 y] (.tup [.int .u64 (x * y / 18446744073709551616), .int .u64 (x * y % 18446744073709551616)]) := by
  obtain ⟨v15, hv15⟩ : ∃ v : Int, IntKind.wrap IntKind.u64 ↑(BitVec.toNat (BitVec.ofInt (IntKind.bits IntKind.u64) x &&& BitVec.ofInt (IntKind.bits IntKind.u64) (4294967295 : Int))) = v := ⟨_, rfl⟩
  have mv15 : v15 = (↑(BitVec.toNat (BitVec.ofInt (IntKind.bits IntKind.u64) x &&& BitVec.ofInt (IntKind.bits IntKind.u64) (4294967295 : Int)))) % 18446744073709551616 := by rw [← hv15]; exact wrapU _
  have q15 : v15 = x % 4294967296 := by rw [← hv15]; exact and32 hx0 hx1
  obtain ⟨v17, hv17⟩ : ∃ v : Int, Int.fdiv x ((2 : Int) ^ min (Int.toNat (32 : Int)) (IntKind.bits IntKind.u64)) = v := ⟨_, rfl⟩
  have q17 : v17 = x / 4294967296 := by rw [← hv17]; exact shr32 _
  obtain ⟨v19, hv19⟩ : ∃ v : Int, IntKind.wrap IntKind.u64 ↑(BitVec.toNat (BitVec.ofInt (IntKind.bits IntKind.u64) y &&& BitVec.ofInt (IntKind.bits IntKind.u64) (4294967295 : Int))) = v := ⟨_, rfl⟩
  have mv19 : v19 = (↑(BitVec.toNat (BitVec.ofInt (IntKind.bits IntKind.u64) y &&& BitVec.ofInt (IntKind.bits IntKind.u64) (4294967295 : Int)))) % 18446744073709551616 := by rw [← hv19]; exact wrapU _
  have q19 : v19 = y % 4294967296 := by rw [← hv19]; exact and32 hy0 hy1
  obtain ⟨v21, hv21⟩ : ∃ v : Int, Int.fdiv y ((2 : Int) ^ min (Int.toNat (32 : Int)) (IntKind.bits IntKind.u64)) = v := ⟨_, rfl⟩
  have q21 : v21 = y / 4294967296 := by rw [← hv21]; exact shr32 _
  obtain ⟨m1, m2, m3, m4, m5, m6, m7, m8, m9⟩ := mul_hi (x := x) (y := y) (x0 := v15) (x1 := v17) (y0 := v19) (y1 := v21) (by omega) (by omega) (by omega) (by omega) (by omega) (by omega) (by omega) (by omega) (by omega) (by omega)
  obtain ⟨v24, hv24⟩ : ∃ v : Int, IntKind.wrap IntKind.u64 (v15 * v19) = v := ⟨_, rfl⟩
  have mv24 : v24 = (v15 * v19) % 18446744073709551616 := by rw [← hv24]; exact wrapU _
  obtain ⟨v27, hv27⟩ : ∃ v : Int, IntKind.wrap IntKind.u64 (v17 * v19) = v := ⟨_, rfl⟩
  have mv27 : v27 = (v17 * v19) % 18446744073709551616 := by rw [← hv27]; exact wrapU _
  obtain ⟨v29, hv29⟩ : ∃ v : Int, Int.fdiv v24 ((2 : Int) ^ min (Int.toNat (32 : Int)) (IntKind.bits IntKind.u64)) = v := ⟨_, rfl⟩
  have q29 : v29 = v24 / 4294967296 := by rw [← hv29]; exact shr32 _
  obtain ⟨v30, hv30⟩ : ∃ v : Int, IntKind.wrap IntKind.u64 (v27 + v29) = v := ⟨_, rfl⟩
  have mv30 : v30 = (v27 + v29) % 18446744073709551616 := by rw [← hv30]; exact wrapU _
  obtain ⟨v32, hv32⟩ : ∃ v : Int, IntKind.wrap IntKind.u64 ↑(BitVec.toNat (BitVec.ofInt (IntKind.bits IntKind.u64) v30 &&& BitVec.ofInt (IntKind.bits IntKind.u64) (4294967295 : Int))) = v := ⟨_, rfl⟩
  have mv32 : v32 = (↑(BitVec.toNat (BitVec.ofInt (IntKind.bits IntKind.u64) v30 &&& BitVec.ofInt (IntKind.bits IntKind.u64) (4294967295 : Int)))) % 18446744073709551616 := by rw [← hv32]; exact wrapU _
  have q32 : v32 = v30 % 4294967296 := by rw [← hv32]; exact and32 (by omega) (by omega)
  obtain ⟨v34, hv34⟩ : ∃ v : Int, Int.fdiv v30 ((2 : Int) ^ min (Int.toNat (32 : Int)) (IntKind.bits IntKind.u64)) = v := ⟨_, rfl⟩
  have q34 : v34 = v30 / 4294967296 := by rw [← hv34]; exact shr32 _
  obtain ⟨v38, hv38⟩ : ∃ v : Int, IntKind.wrap IntKind.u64 (v15 * v21) = v := ⟨_, rfl⟩
  have mv38 : v38 = (v15 * v21) % 18446744073709551616 := by rw [← hv38]; exact wrapU _
  obtain ⟨v39, hv39⟩ : ∃ v : Int, IntKind.wrap IntKind.u64 (v32 + v38) = v := ⟨_, rfl⟩
  have mv39 : v39 = (v32 + v38) % 18446744073709551616 := by rw [← hv39]; exact wrapU _
  obtain ⟨v42, hv42⟩ : ∃ v : Int, IntKind.wrap IntKind.u64 (v17 * v21) = v := ⟨_, rfl⟩
  have mv42 : v42 = (v17 * v21) % 18446744073709551616 := by rw [← hv42]; exact wrapU _
  obtain ⟨v44, hv44⟩ : ∃ v : Int, IntKind.wrap IntKind.u64 (v42 + v34) = v := ⟨_, rfl⟩
  have mv44 : v44 = (v42 + v34) % 18446744073709551616 := by rw [← hv44]; exact wrapU _
  obtain ⟨v46, hv46⟩ : ∃ v : Int, Int.fdiv v39 ((2 : Int) ^ min (Int.toNat (32 : Int)) (IntKind.bits IntKind.u64)) = v := ⟨_, rfl⟩
  have q46 : v46 = v39 / 4294967296 := by rw [← hv46]; exact shr32 _
  obtain ⟨v47, hv47⟩ : ∃ v : Int, IntKind.wrap IntKind.u64 (v44 + v46) = v := ⟨_, rfl⟩
  have mv47 : v47 = (v44 + v46) % 18446744073709551616 := by rw [← hv47]; exact wrapU _
  obtain ⟨v50, hv50⟩ : ∃ v : Int, IntKind.wrap IntKind.u64 (x * y) = v := ⟨_, rfl⟩
  have mv50 : v50 = (x * y) % 18446744073709551616 := by rw [← hv50]; exact wrapU _
  have e : (D.tup [D.int IntKind.u64 v47, D.int IntKind.u64 v50] : D) = (.tup [.int .u64 (x * y / 18446744073709551616), .int .u64 (x * y % 18446744073709551616)]) := by (have a : v47 = x * y / 18446744073709551616 := by omega); (have b : v50 = x * y % 18446744073709551616 := by omega); rw [a, b]
  rw [← e]
  exact path noSpec (by kernel_rfl) rfl rfl Try.func76 (by kernel_rfl) calm76 [{ tag := (15 : Nat), a := AnsK.si v15 }, { tag := (17 : Nat), a := AnsK.ok }, { tag := (17 : Nat), a := AnsK.si v17 }, { tag := (19 : Nat), a := AnsK.si v19 }, { tag := (21 : Nat), a := AnsK.ok }, { tag := (21 : Nat), a := AnsK.si v21 }, { tag := (24 : Nat), a := AnsK.si v24 }, { tag := (27 : Nat), a := AnsK.si v27 }, { tag := (29 : Nat), a := AnsK.ok }, { tag := (29 : Nat), a := AnsK.si v29 }, { tag := (30 : Nat), a := AnsK.si v30 }, { tag := (32 : Nat), a := AnsK.si v32 }, { tag := (34 : Nat), a := AnsK.ok }, { tag := (34 : Nat), a := AnsK.si v34 }, { tag := (38 : Nat), a := AnsK.si v38 }, { tag := (39 : Nat), a := AnsK.si v39 }, { tag := (42 : Nat), a := AnsK.si v42 }, { tag := (44 : Nat), a := AnsK.si v44 }, { tag := (46 : Nat), a := AnsK.ok }, { tag := (46 : Nat), a := AnsK.si v46 }, { tag := (47 : Nat), a := AnsK.si v47 }, { tag := (50 : Nat), a := AnsK.si v50 }] (ts := [IntKind.wrap IntKind.u64 ↑(BitVec.toNat (BitVec.ofInt (IntKind.bits IntKind.u64) x &&& BitVec.ofInt (IntKind.bits IntKind.u64) (4294967295 : Int))) = v15, (0 : Int) ≤ (32 : Int), Int.fdiv x ((2 : Int) ^ min (Int.toNat (32 : Int)) (IntKind.bits IntKind.u64)) = v17, IntKind.wrap IntKind.u64 ↑(BitVec.toNat (BitVec.ofInt (IntKind.bits IntKind.u64) y &&& BitVec.ofInt (IntKind.bits IntKind.u64) (4294967295 : Int))) = v19, (0 : Int) ≤ (32 : Int), Int.fdiv y ((2 : Int) ^ min (Int.toNat (32 : Int)) (IntKind.bits IntKind.u64)) = v21, IntKind.wrap IntKind.u64 (v15 * v19) = v24, IntKind.wrap IntKind.u64 (v17 * v19) = v27, (0 : Int) ≤ (32 : Int), Int.fdiv v24 ((2 : Int) ^ min (Int.toNat (32 : Int)) (IntKind.bits IntKind.u64)) = v29, IntKind.wrap IntKind.u64 (v27 + v29) = v30, IntKind.wrap IntKind.u64 ↑(BitVec.toNat (BitVec.ofInt (IntKind.bits IntKind.u64) v30 &&& BitVec.ofInt (IntKind.bits IntKind.u64) (4294967295 : Int))) = v32, (0 : Int) ≤ (32 : Int), Int.fdiv v30 ((2 : Int) ^ min (Int.toNat (32 : Int)) (IntKind.bits IntKind.u64)) = v34, IntKind.wrap IntKind.u64 (v15 * v21) = v38, IntKind.wrap IntKind.u64 (v32 + v38) = v39, IntKind.wrap IntKind.u64 (v17 * v21) = v42, IntKind.wrap IntKind.u64 (v42 + v34) = v44, (0 : Int) ≤ (32 : Int), Int.fdiv v39 ((2 : Int) ^ min (Int.toNat (32 : Int)) (IntKind.bits IntKind.u64)) = v46, IntKind.wrap IntKind.u64 (v44 + v46) = v47, IntKind.wrap IntKind.u64 (x * y) = v50]) (by kernel_rfl) ⟨(by first | assumption | decide | omega | (simp only [decide_eq_true_eq, decide_eq_false_iff_not, ne_eq] at *; omega)), (by first | assumption | decide | omega | (simp only [decide_eq_true_eq, decide_eq_false_iff_not, ne_eq] at *; omega)), (by first | assumption | decide | omega | (simp only [decide_eq_true_eq, decide_eq_false_iff_not, ne_eq] at *; omega)), (by first | assumption | decide | omega | (simp only [decide_eq_true_eq, decide_eq_false_iff_not, ne_eq] at *; omega)), (by first | assumption | decide | omega | (simp only [decide_eq_true_eq, decide_eq_false_iff_not, ne_eq] at *; omega)), (by first | assumption | decide | omega | (simp only [decide_eq_true_eq, decide_eq_false_iff_not, ne_eq] at *; omega)), (by first | assumption | decide | omega | (simp only [decide_eq_true_eq, decide_eq_false_iff_not, ne_eq] at *; omega)), (by first | assumption | decide | omega | (simp only [decide_eq_true_eq, decide_eq_false_iff_not, ne_eq] at *; omega)), (by first | assumption | decide | omega | (simp only [decide_eq_true_eq, decide_eq_false_iff_not, ne_eq] at *; omega)), (by first | assumption | decide | omega | (simp only [decide_eq_true_eq, decide_eq_false_iff_not, ne_eq] at *; omega)), (by first | assumption | decide | omega | (simp only [decide_eq_true_eq, decide_eq_false_iff_not, ne_eq] at *; omega)), (by first | assumption | decide | omega | (simp only [decide_eq_true_eq, decide_eq_false_iff_not, ne_eq] at *; omega)), (by first | assumption | decide | omega | (simp only [decide_eq_true_eq, decide_eq_false_iff_not, ne_eq] at *; omega)), (by first | assumption | decide | omega | (simp only [decide_eq_true_eq, decide_eq_false_iff_not, ne_eq] at *; omega)), (by first | assumption | decide | omega | (simp only [decide_eq_true_eq, decide_eq_false_iff_not, ne_eq] at *; omega)), (by first | assumption | decide | omega | (simp only [decide_eq_true_eq, decide_eq_false_iff_not, ne_eq] at *; omega)), (by first | assumption | decide | omega | (simp only [decide_eq_true_eq, decide_eq_false_iff_not, ne_eq] at *; omega)), (by first | assumption | decide | omega | (simp only [decide_eq_true_eq, decide_eq_false_iff_not, ne_eq] at *; omega)), (by first | assumption | decide | omega | (simp only [decide_eq_true_eq, decide_eq_false_iff_not, ne_eq] at *; omega)), (by first | assumption | decide | omega | (simp only [decide_eq_true_eq, decide_eq_false_iff_not, ne_eq] at *; omega)), (by first | assumption | decide | omega | (simp only [decide_eq_true_eq, decide_eq_false_iff_not, ne_eq] at *; omega)), (by first | assumption | decide | omega | (simp only [decide_eq_true_eq, decide_eq_false_iff_not, ne_eq] at *; omega)), trivial⟩
  -- 1 paths

end Go.Proofs.Ytfjgngdomjjpgaa.Dv
