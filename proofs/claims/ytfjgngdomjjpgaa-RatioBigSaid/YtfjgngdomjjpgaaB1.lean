/- Parts of products, and great ones: the laws. -/
import Derived.Test.YtfjgngdomjjpgaaA4
set_option linter.unusedVariables false
set_option linter.unusedSimpArgs false
namespace Go.Proofs.Ytfjgngdomjjpgaa.Dv
open Go Go.Proofs
def lawC1 : List Ctr := [mdC, cmpC, drC, pctC, awakeC 50 (by kernel_rfl)]
def partsCfg : WCfg := cfgH lawC1 [(16, .w), (20, .w), (24, .w), (17, .n), (21, .n), (25, .n), (33, .n), (40, .n), (48, .n), (56, .n)]
def bigCfg : WCfg := cfgH lawC1 [(16, .w), (20, .w), (17, .n), (21, .n)]
theorem partsN {a b c : Int} (ha : rI a) (hb : rI b) (hc : rI c) : (0 : Int) ≤ wr IntKind.u64 a ∧ (0 : Int) < (1099511627776 : Int) ∧ ∀ (v : Int), v = wr IntKind.u64 a % (1099511627776 : Int) → inK IntKind.i64 v ∧ (0 : Int) ≤ wr IntKind.u64 b ∧ (0 : Int) < (1048576 : Int) ∧ ∀ (v_1 : Int), v_1 = wr IntKind.u64 b % (1048576 : Int) → inK IntKind.i64 v_1 ∧ (0 : Int) ≤ wr IntKind.u64 c ∧ (0 : Int) < (1048576 : Int) ∧ ∀ (v_2 : Int), v_2 = wr IntKind.u64 c % (1048576 : Int) → inK IntKind.i64 v_2 ∧ inK IntKind.i64 ((1 : Int) + v_2) ∧ (rI v ∧ rI ((1 : Int) + v_2) ∧ rI ((1 : Int) + v_2)) ∧ ∀ (v_3 : Int), v_3 = (mdI v ((1 : Int) + v_2) ((1 : Int) + v_2)).fst → (rI v ∧ rI v_1 ∧ rI ((1 : Int) + v_2)) ∧ ∀ (v_4 : Int), v_4 = (mdI v v_1 ((1 : Int) + v_2)).fst → inK IntKind.i64 ((1 : Int) + v_2 + (1 : Int)) ∧ (rI v ∧ rI v_1 ∧ rI ((1 : Int) + v_2 + (1 : Int))) ∧ ∀ (v_5 : Int), v_5 = (mdI v v_1 ((1 : Int) + v_2 + (1 : Int))).fst → inK IntKind.i64 (v + (1 : Int)) ∧ (rI (v + (1 : Int)) ∧ rI v_1 ∧ rI ((1 : Int) + v_2)) ∧ ∀ (v_6 : Int), v_6 = (mdI (v + (1 : Int)) v_1 ((1 : Int) + v_2)).fst → ((mdI v ((1 : Int) + v_2) ((1 : Int) + v_2)).snd = true → (decide (v_3 = v) = true → ((mdI v v_1 ((1 : Int) + v_2)).snd = true → ((mdI v v_1 ((1 : Int) + v_2 + (1 : Int))).snd = true → ((mdI (v + (1 : Int)) v_1 ((1 : Int) + v_2)).snd = true → (decide (v_5 ≤ v_4) = true → (decide (v_4 ≤ v_6) = true → inK IntKind.i64 (v_4 * ((1 : Int) + v_2)) ∧ inK IntKind.i64 (v * v_1) ∧ (decide (v_4 * ((1 : Int) + v_2) ≤ v * v_1) = true → inK IntKind.i64 (v * v_1) ∧ inK IntKind.i64 (v_4 * ((1 : Int) + v_2)) ∧ inK IntKind.i64 (v_4 * ((1 : Int) + v_2) + ((1 : Int) + v_2)) ∧ (decide (v * v_1 < v_4 * ((1 : Int) + v_2) + ((1 : Int) + v_2)) = true → True ∧ D.bool true = D.bool true) ∧ (decide (v * v_1 < v_4 * ((1 : Int) + v_2) + ((1 : Int) + v_2)) = false → D.bool false = D.bool true)) ∧ (decide (v_4 * ((1 : Int) + v_2) ≤ v * v_1) = false → D.bool false = D.bool true)) ∧ (decide (v_4 ≤ v_6) = false → D.bool false = D.bool true)) ∧ (decide (v_5 ≤ v_4) = false → D.bool false = D.bool true)) ∧ ((mdI (v + (1 : Int)) v_1 ((1 : Int) + v_2)).snd = false → D.bool false = D.bool true)) ∧ ((mdI v v_1 ((1 : Int) + v_2 + (1 : Int))).snd = false → D.bool false = D.bool true)) ∧ ((mdI v v_1 ((1 : Int) + v_2)).snd = false → D.bool false = D.bool true)) ∧ (decide (v_3 = v) = false → D.bool false = D.bool true)) ∧ ((mdI v ((1 : Int) + v_2) ((1 : Int) + v_2)).snd = false → D.bool false = D.bool true) := by
  dsimp only [inK, rI] at *
  refine ⟨by simp only [wr]; omega, by decide, ?_⟩; intro x hx
  refine ⟨by omega, by simp only [wr]; omega, by decide, ?_⟩; intro y hy
  refine ⟨by omega, by simp only [wr]; omega, by decide, ?_⟩; intro z hz
  have x0 : 0 ≤ x ∧ x < 1099511627776 := by omega
  have y0 : 0 ≤ y ∧ y < 1048576 := by omega
  have z0 : 0 ≤ z ∧ z < 1048576 := by omega
  clear hx hy hz
  have p0 := Int.mul_nonneg x0.1 y0.1
  have p1 := mul_le x0.1 y0.1 (show x ≤ 1099511627776 by omega) (show y ≤ 1048576 by omega)
  have p2 : (x + 1) * y = x * y + y := by rw [Int.add_mul, Int.one_mul]
  have q1 : x * y / (1 + z) ≤ x * y := Int.ediv_le_self _ p0
  have q2 : x * y / (1 + z + 1) ≤ x * y := Int.ediv_le_self _ p0
  have q3 : (x + 1) * y / (1 + z) ≤ (x + 1) * y := Int.ediv_le_self _ (by omega)
  have e1 := mdI_self (a := x) (c := 1 + z) x0.1 (by omega) (by omega)
  have e2 := mdI_ok (a := x) (b := y) (c := 1 + z) x0.1 y0.1 (by omega) (by omega)
  have e3 := mdI_ok (a := x) (b := y) (c := 1 + z + 1) x0.1 y0.1 (by omega) (by omega)
  have e4 := mdI_ok (a := x + 1) (b := y) (c := 1 + z) (by omega) y0.1 (by omega) (by omega)
  rw [e1, e2, e3, e4]
  have r1 : x * y / (1 + z) * (1 + z) ≤ x * y := Int.ediv_mul_le _ (by omega)
  have r2 : x * y < (x * y / (1 + z) + 1) * (1 + z) := Int.lt_ediv_add_one_mul_self _ (by omega)
  rw [Int.add_mul, Int.one_mul] at r2
  have r3 : x * y / (1 + z + 1) ≤ x * y / (1 + z) := by
    have h0 : 0 ≤ x * y / (1 + z + 1) := Int.ediv_nonneg p0 (by omega)
    refine Int.le_ediv_of_mul_le (by omega) ?_
    have h1 : x * y / (1 + z + 1) * (1 + z + 1) ≤ x * y := Int.ediv_mul_le _ (by omega)
    rw [Int.mul_add, Int.mul_one] at h1
    omega
  have r4 : x * y / (1 + z) ≤ (x + 1) * y / (1 + z) := Int.ediv_le_ediv (by omega) (by omega)
  repeat (refine ⟨by omega, ?_⟩)
  intro v3 h3
  repeat (refine ⟨by omega, ?_⟩)
  intro v4 h4
  repeat (refine ⟨by omega, ?_⟩)
  intro v5 h5
  repeat (refine ⟨by omega, ?_⟩)
  intro v6 h6
  simp only at h3 h4 h5 h6
  rw [← h4] at r1 r2 r3 r4 q1
  have v40 : 0 ≤ v4 := by rw [h4]; exact Int.ediv_nonneg p0 (by omega)
  have r5 := Int.mul_nonneg v40 (show 0 ≤ 1 + z by omega)
  generalize v4 * (1 + z) = W at *
  refine chkb rfl (chk h3 (chkb rfl (chkb rfl (chkb rfl (chk (by omega) (chk (by omega) ⟨by omega, by omega, chk (by omega) ⟨by omega, by omega, by omega, chk (by omega) ⟨trivial, rfl⟩⟩⟩))))))
theorem pr_pos {a b : Int} (ha : 0 ≤ a) (hb : 0 ≤ b) : pr a b = a * b := by unfold pr; rw [Int.max_eq_left ha, Int.max_eq_left hb]
theorem bigN {a b : Int} (ha : rI a) (hb : rI b) : (0 : Int) ≤ wr IntKind.u64 a ∧ (0 : Int) < (4611686018427387905 : Int) ∧ ∀ (v : Int), v = wr IntKind.u64 a % (4611686018427387905 : Int) → inK IntKind.i64 v ∧ (0 : Int) ≤ wr IntKind.u64 b ∧ (0 : Int) < (4611686018427387904 : Int) ∧ ∀ (v_1 : Int), v_1 = wr IntKind.u64 b % (4611686018427387904 : Int) → inK IntKind.i64 v_1 ∧ inK IntKind.i64 ((1 : Int) + v_1) ∧ (rI v ∧ rI ((1 : Int) + v_1) ∧ rI ((1 : Int) + v_1)) ∧ (rI (4611686018427387904 : Int) ∧ rI (2 : Int) ∧ rI (1 : Int)) ∧ (rI v ∧ rI ((1 : Int) + v_1) ∧ rI (0 : Int)) ∧ inK IntKind.i64 ((-1 : Int) - v) ∧ (rI ((-1 : Int) - v) ∧ rI ((1 : Int) + v_1) ∧ rI (1 : Int)) ∧ (rI (4611686018427387904 : Int) ∧ rI ((1 : Int) + v_1) ∧ rI ((1 : Int) + v_1)) ∧ ((mdI v ((1 : Int) + v_1) ((1 : Int) + v_1)).snd = true → (decide ((mdI v ((1 : Int) + v_1) ((1 : Int) + v_1)).fst = v) = true → (true = true → ((!(mdI v ((1 : Int) + v_1) (0 : Int)).snd) = true → ((!(mdI ((-1 : Int) - v) ((1 : Int) + v_1) (1 : Int)).snd) = true → ((mdI (4611686018427387904 : Int) ((1 : Int) + v_1) ((1 : Int) + v_1)).snd = true → (decide ((mdI (4611686018427387904 : Int) ((1 : Int) + v_1) ((1 : Int) + v_1)).fst = (4611686018427387904 : Int)) = true → (rI v ∧ rI ((1 : Int) + v_1) ∧ rI ((1 : Int) + v_1) ∧ rI v) ∧ (decide (cmpI (pr v ((1 : Int) + v_1)) (pr ((1 : Int) + v_1) v) = (0 : Int)) = true → (decide (v = (0 : Int)) = true → True ∧ D.bool true = D.bool true) ∧ (decide (v = (0 : Int)) = false → inK IntKind.i64 ((1 : Int) + v_1 - (1 : Int)) ∧ (rI v ∧ rI ((1 : Int) + v_1) ∧ rI v ∧ rI ((1 : Int) + v_1 - (1 : Int))) ∧ (decide (cmpI (pr v ((1 : Int) + v_1)) (pr v ((1 : Int) + v_1 - (1 : Int))) = (1 : Int)) = true → True ∧ D.bool true = D.bool true) ∧ (decide (cmpI (pr v ((1 : Int) + v_1)) (pr v ((1 : Int) + v_1 - (1 : Int))) = (1 : Int)) = false → D.bool false = D.bool true))) ∧ (decide (cmpI (pr v ((1 : Int) + v_1)) (pr ((1 : Int) + v_1) v) = (0 : Int)) = false → D.bool false = D.bool true)) ∧ (decide ((mdI (4611686018427387904 : Int) ((1 : Int) + v_1) ((1 : Int) + v_1)).fst = (4611686018427387904 : Int)) = false → D.bool false = D.bool true)) ∧ ((mdI (4611686018427387904 : Int) ((1 : Int) + v_1) ((1 : Int) + v_1)).snd = false → D.bool false = D.bool true)) ∧ ((!(mdI ((-1 : Int) - v) ((1 : Int) + v_1) (1 : Int)).snd) = false → D.bool false = D.bool true)) ∧ ((!(mdI v ((1 : Int) + v_1) (0 : Int)).snd) = false → D.bool false = D.bool true)) ∧ (true = false → D.bool false = D.bool true)) ∧ (decide ((mdI v ((1 : Int) + v_1) ((1 : Int) + v_1)).fst = v) = false → D.bool false = D.bool true)) ∧ ((mdI v ((1 : Int) + v_1) ((1 : Int) + v_1)).snd = false → D.bool false = D.bool true) := by
  dsimp only [inK, rI] at *
  refine ⟨by simp only [wr]; omega, by decide, ?_⟩; intro x hx
  refine ⟨by omega, by simp only [wr]; omega, by decide, ?_⟩; intro y hy
  have x0 : 0 ≤ x ∧ x ≤ 4611686018427387904 := by omega
  have y0 : 0 ≤ y ∧ y < 4611686018427387904 := by omega
  clear hx hy
  refine ⟨by omega, by omega, by omega, by omega, by omega, by omega, by omega, by omega, ?_⟩
  rw [mdI_self (a := x) (c := 1 + y) x0.1 x0.2 (by omega), mdI_self (a := 4611686018427387904) (c := 1 + y) (by omega) (by omega) (by omega)]
  have c1 : cmpI (pr x (1 + y)) (pr (1 + y) x) = 0 := by
    rw [pr_pos x0.1 (by omega), pr_pos (by omega) x0.1, Int.mul_comm (1 + y)]
    unfold cmpI
    rw [if_neg (by omega), if_pos rfl]
  refine chkb rfl (chk rfl (chkb rfl (chkb ?_ (chkb ?_ (chkb rfl (chk rfl ⟨by omega, chk c1 (chks (fun _ => ⟨trivial, rfl⟩) fun hx => ⟨by omega, by omega, chk ?_ ⟨trivial, rfl⟩⟩)⟩))))))
  · unfold mdI; rw [if_neg (by omega), if_neg (by omega), if_pos (by omega)]; rfl
  · unfold mdI; rw [if_pos (by omega)]; rfl
  · rw [pr_pos x0.1 (by omega), pr_pos x0.1 (by omega)]
    have h1 : x * (1 + y - 1) = x * (1 + y) - x := by rw [Int.mul_sub, Int.mul_one]
    unfold cmpI
    rw [h1, if_neg (by omega), if_neg (by omega)]
theorem ratioParts_law {x0 : List D} (o0 : Ok [.int .i64] x0) {x1 : List D} (o1 : Ok [.int .i64] x1) {x2 : List D} (o2 : Ok [.int .i64] x2) : DataFun Try.prog 18 [vOf false x0, vOf false x1, vOf false x2] (.bool true) := by
  cases o0 with | int h0 t0 => cases t0; cases o1 with | int h1 t1 => cases t1; cases o2 with | int h2 t2 => cases t2; exact dataFun0 (C := partsCfg) (ctrs_ok lawC1 rfl rfl) rfl Try.func18 (by kernel_rfl) (by kernel_rfl) (by kernel_rfl) (by kernel_rfl) (by kernel_rfl) (partsN (wf_i64 h0) (wf_i64 h1) (wf_i64 h2))
theorem ratioBig_law {x0 : List D} (o0 : Ok [.int .i64] x0) {x1 : List D} (o1 : Ok [.int .i64] x1) : DataFun Try.prog 22 [vOf false x0, vOf false x1] (.bool true) := by
  cases o0 with | int h0 t0 => cases t0; cases o1 with | int h1 t1 => cases t1; exact dataFun0 (C := bigCfg) (ctrs_ok lawC1 rfl rfl) rfl Try.func22 (by kernel_rfl) (by kernel_rfl) (by kernel_rfl) (by kernel_rfl) (by kernel_rfl) (bigN (wf_i64 h0) (wf_i64 h1))
end Go.Proofs.Ytfjgngdomjjpgaa.Dv
