/- The less busy of two. -/
import Derived.Test.YtfjgngdomjjpgaaA4
set_option linter.unusedVariables false
set_option linter.unusedSimpArgs false
namespace Go.Proofs.Ytfjgngdomjjpgaa.Dv
open Go Go.Proofs
structure Bz where
  id : Int
  w : Int
  a : Int
  deriving DecidableEq, Inhabited
def Bz.toD (b : Bz) : D := .agg [.int .i64 b.id, .int .i64 b.w, .int .i64 b.a]
def dBz : D → Bz
  | .agg [.int _ i, .int _ w, .int _ a] => ⟨i, w, a⟩
  | _ => ⟨0, 0, 0⟩
theorem dBz_toD (b : Bz) : dBz b.toD = b := rfl
theorem map_dBz (l : List Bz) : (l.map Bz.toD).map dBz = l := by rw [List.map_map]; exact (List.map_congr_left fun x _ => rfl).trans (List.map_id l)
def Bz.ok (b : Bz) : Prop := rI b.id ∧ rI b.w ∧ rI b.a
def codsE : TypeId → Option Codec
  | 43 => some ⟨Bz, Bz.toD⟩
  | t => cods t
def cfgE (l : List Ctr) (h : List (Nat × Hn)) : WCfg := { spec := specOf l, cod := codsE, H := hints h }
def opn (a : Int) : Int := min (max a 0) 4611686018427387904 + 1
theorem opn_in (a : Int) : 1 ≤ opn a ∧ opn a ≤ 4611686018427387905 := by unfold opn; omega
def lessC (x y : Bz) : Int := cmpI (pr (opn x.a) (max y.w 1)) (pr (opn y.a) (max x.w 1))
def lessM (x y : Bz) : Bool := decide (lessC x y < 0 ∨ (lessC x y = 0 ∧ x.id < y.id))
def twoM (n a b : Int) : Int × Int := if n < 2 then (0, 0) else (drI a n, if drI a n ≤ drI b (n - 1) then drI b (n - 1) + 1 else drI b (n - 1))
def pickM (l : List Bz) (a b : Int) : Int × Bool :=
  if l = [] then (0, false)
  else if lessM (l.getD (twoM l.length a b).2.toNat default) (l.getD (twoM l.length a b).1.toNat default) = true then ((l.getD (twoM l.length a b).2.toNat default).id, true) else ((l.getD (twoM l.length a b).1.toNat default).id, true)
theorem drI_mod (d : Int) {n : Int} (h : 1 ≤ n) : drI d n = d % n ∧ 0 ≤ drI d n ∧ drI d n < n := by
  have e1 := Int.emod_nonneg d (show n ≠ 0 by omega)
  have e2 := Int.emod_lt_of_pos d (show 0 < n by omega)
  have : drI d n = d % n := by
    unfold drI
    rw [if_neg (by omega)]
    have ht := Int.tmod_eq_emod (a := d) (b := n)
    split at ht
    · rw [if_neg (by omega)]; omega
    · have hn : (n.natAbs : Int) = n := by omega
      split <;> omega
  omega
theorem twoM_ok {n a b : Int} (h : 2 ≤ n) : 0 ≤ (twoM n a b).1 ∧ (twoM n a b).1 < n ∧ 0 ≤ (twoM n a b).2 ∧ (twoM n a b).2 < n ∧ (twoM n a b).1 ≠ (twoM n a b).2 := by
  have h1 := drI_mod a (show 1 ≤ n by omega)
  have h2 := drI_mod b (show 1 ≤ n - 1 by omega)
  unfold twoM
  rw [if_neg (by omega)]
  simp only
  split <;> omega
theorem twoM_in {n a b : Int} (h : 1 ≤ n) : 0 ≤ (twoM n a b).1 ∧ (twoM n a b).1 < n ∧ 0 ≤ (twoM n a b).2 ∧ (twoM n a b).2 < n := by
  rcases Int.lt_or_le n 2 with h2 | h2
  · unfold twoM; rw [if_pos h2]; simp only; omega
  · have := twoM_ok (a := a) (b := b) h2; omega
theorem cmpI_cases (p q : Int) : (p < q ∧ cmpI p q = -1) ∨ (p = q ∧ cmpI p q = 0) ∨ (q < p ∧ cmpI p q = 1) := by
  unfold cmpI
  split
  · exact .inl ⟨by assumption, rfl⟩
  · split
    · exact .inr (.inl ⟨by assumption, rfl⟩)
    · exact .inr (.inr ⟨by omega, rfl⟩)
theorem lessM_asym {x y : Bz} (h : x.id ≠ y.id) : lessM x y = !lessM y x := by
  unfold lessM lessC
  have h1 := cmpI_cases (pr (opn x.a) (max y.w 1)) (pr (opn y.a) (max x.w 1))
  have h2 := cmpI_cases (pr (opn y.a) (max x.w 1)) (pr (opn x.a) (max y.w 1))
  generalize cmpI (pr (opn x.a) (max y.w 1)) (pr (opn y.a) (max x.w 1)) = c at *
  generalize cmpI (pr (opn y.a) (max x.w 1)) (pr (opn x.a) (max y.w 1)) = d at *
  rw [← decide_not]
  exact decide_eq_decide.2 (by omega)
def openS (vs : List D) : Option DOut := match vs with | [.agg [.int .i64 i, .int .i64 w, .int .i64 a]] => some ⟨True, .int .i64 (opn a)⟩ | _ => none
theorem openN (i w a : Int) : inK IntKind.i64 (min (max a (0 : Int)) (4611686018427387904 : Int) + (1 : Int)) ∧ D.int IntKind.i64 (min (max a (0 : Int)) (4611686018427387904 : Int) + (1 : Int)) = D.int IntKind.i64 (opn a) := by
  simp only [inK, opn, true_and, and_true]
  omega
def openC : Ctr := ⟨66, openS, by
  intro vs o ho hp
  unfold openS at ho
  split at ho
  · rename_i i w a; injection ho with ho; subst ho
    exact dataFun0 (C := cfgE [] []) (ctrs_ok [] rfl rfl) rfl Try.func66 (by kernel_rfl) (by kernel_rfl) (by kernel_rfl) (by kernel_rfl) (by kernel_rfl) (openN i w a)
  · cases ho⟩
def lessS (vs : List D) : Option DOut := match vs with | [.agg [.int .i64 i, .int .i64 w, .int .i64 a], .agg [.int .i64 j, .int .i64 v, .int .i64 b]] => some ⟨rI w ∧ rI v, .bool (lessM ⟨i, w, a⟩ ⟨j, v, b⟩)⟩ | _ => none
theorem lessN (x y : Bz) (hx : rI x.w) (hy : rI y.w) : True ∧ True ∧ (rI (opn x.a) ∧ rI (max y.w (1 : Int)) ∧ rI (opn y.a) ∧ rI (max x.w (1 : Int))) ∧ (decide (cmpI (pr (opn x.a) (max y.w (1 : Int))) (pr (opn y.a) (max x.w (1 : Int))) < (0 : Int)) = true → D.bool true = D.bool (lessM x y)) ∧ (decide (cmpI (pr (opn x.a) (max y.w (1 : Int))) (pr (opn y.a) (max x.w (1 : Int))) < (0 : Int)) = false → (decide (cmpI (pr (opn x.a) (max y.w (1 : Int))) (pr (opn y.a) (max x.w (1 : Int))) = (0 : Int)) = true → D.bool (decide (x.id < y.id)) = D.bool (lessM x y)) ∧ (decide (cmpI (pr (opn x.a) (max y.w (1 : Int))) (pr (opn y.a) (max x.w (1 : Int))) = (0 : Int)) = false → D.bool false = D.bool (lessM x y))) := by
  have h1 := opn_in x.a
  have h2 := opn_in y.a
  unfold rI at hx hy
  unfold lessM lessC
  generalize cmpI (pr (opn x.a) (max y.w 1)) (pr (opn y.a) (max x.w 1)) = c at *
  repeat' (first | (intro _) | (apply And.intro))
  all_goals first | omega | rfl | trivial | (simp only [D.bool.injEq, D.int.injEq, D.tup.injEq, D.agg.injEq, D.str.injEq, D.sl.injEq, List.cons.injEq, true_and, and_true, decide_eq_true_eq, decide_eq_false_iff_not, false_eq_decide_iff, true_eq_decide_iff, decide_eq_decide, Bool.false_eq_true, Bool.true_eq_false, not_false_eq_true, not_true_eq_false, inK, rI] at *; first | done | omega | ((repeat' split) <;> omega) | simp_all)
def lessCt : Ctr := ⟨32, lessS, by
  intro vs o ho hp
  unfold lessS at ho
  split at ho
  · rename_i i w a j v b; injection ho with ho; subst ho
    exact dataFun0 (C := cfgE [openC, cmpC] []) (ctrs_ok [openC, cmpC] rfl rfl) rfl Try.func32 (by kernel_rfl) (by kernel_rfl) (by kernel_rfl) (by kernel_rfl) (by kernel_rfl) (lessN ⟨i, w, a⟩ ⟨j, v, b⟩ hp.1 hp.2)
  · cases ho⟩
def twoS (vs : List D) : Option DOut := match vs with | [.int .i64 n, .int .i64 a, .int .i64 b] => some ⟨rI n ∧ rI a ∧ rI b, .tup [.int .i64 (twoM n a b).1, .int .i64 (twoM n a b).2]⟩ | _ => none
theorem twoN {n a b : Int} (hn : rI n) (ha : rI a) (hb : rI b) : (decide (n < (2 : Int)) = true → D.tup [D.int IntKind.i64 (0 : Int), D.int IntKind.i64 (0 : Int)] = D.tup [D.int IntKind.i64 (twoM n a b).fst, D.int IntKind.i64 (twoM n a b).snd]) ∧ (decide (n < (2 : Int)) = false → (rI a ∧ rI n) ∧ inK IntKind.i64 (n - (1 : Int)) ∧ (rI b ∧ rI (n - (1 : Int))) ∧ (decide (drI a n ≤ drI b (n - (1 : Int))) = true → inK IntKind.i64 (drI b (n - (1 : Int)) + (1 : Int)) ∧ D.tup [D.int IntKind.i64 (drI a n), D.int IntKind.i64 (drI b (n - (1 : Int)) + (1 : Int))] = D.tup [D.int IntKind.i64 (twoM n a b).fst, D.int IntKind.i64 (twoM n a b).snd]) ∧ (decide (drI a n ≤ drI b (n - (1 : Int))) = false → D.tup [D.int IntKind.i64 (drI a n), D.int IntKind.i64 (drI b (n - (1 : Int)))] = D.tup [D.int IntKind.i64 (twoM n a b).fst, D.int IntKind.i64 (twoM n a b).snd])) := by
  unfold rI at *
  unfold twoM
  refine chks (fun h => by rw [if_pos h]) fun h => ?_
  have h1 := drI_mod a (show 1 ≤ n by omega)
  have h2 := drI_mod b (show 1 ≤ n - 1 by omega)
  rw [if_neg h]
  simp only [inK, rI]
  refine ⟨by omega, by omega, by omega, chks (fun h => ⟨by omega, by rw [if_pos h]⟩) fun h => by rw [if_neg h]⟩
def twoC : Ctr := ⟨30, twoS, by
  intro vs o ho hp
  unfold twoS at ho
  split at ho
  · rename_i n a b; injection ho with ho; subst ho
    exact dataFun0 (C := cfgE [drC] []) (ctrs_ok [drC] rfl rfl) rfl Try.func30 (by kernel_rfl) (by kernel_rfl) (by kernel_rfl) (by kernel_rfl) (by kernel_rfl) (twoN hp.1 hp.2.1 hp.2.2)
  · cases ho⟩
theorem pickN {l : List Bz} {a b : Int} (f : Bool) (hl : l.length ≤ 9223372036854775807) (hb : ∀ x ∈ l, x.ok) (ha' : rI a) (hb' : rI b) : (decide ((↑(List.map Bz.toD l).length : Int) = (0 : Int)) = true → D.tup [D.int IntKind.i64 (0 : Int), D.bool false] = D.tup [D.int IntKind.i64 (pickM l a b).fst, D.bool (pickM l a b).snd]) ∧ (decide ((↑(List.map Bz.toD l).length : Int) = (0 : Int)) = false → (rI (↑(List.map Bz.toD l).length : Int) ∧ rI a ∧ rI b) ∧ ∃ (y : Bz), (0 : Int) ≤ (twoM (↑(List.map Bz.toD l).length : Int) a b).snd ∧ (List.map Bz.toD l)[(twoM (↑(List.map Bz.toD l).length : Int) a b).snd.toNat]? = some (D.agg [D.int IntKind.i64 y.id, D.int IntKind.i64 y.w, D.int IntKind.i64 y.a]) ∧ ∃ (y_1 : Bz), (0 : Int) ≤ (twoM (↑(List.map Bz.toD l).length : Int) a b).fst ∧ (List.map Bz.toD l)[(twoM (↑(List.map Bz.toD l).length : Int) a b).fst.toNat]? = some (D.agg [D.int IntKind.i64 y_1.id, D.int IntKind.i64 y_1.w, D.int IntKind.i64 y_1.a]) ∧ (rI y.w ∧ rI y_1.w) ∧ (lessM y y_1 = true → ∃ (y : Bz), (0 : Int) ≤ (twoM (↑(List.map Bz.toD l).length : Int) a b).snd ∧ (List.map Bz.toD l)[(twoM (↑(List.map Bz.toD l).length : Int) a b).snd.toNat]? = some (D.agg [D.int IntKind.i64 y.id, D.int IntKind.i64 y.w, D.int IntKind.i64 y.a]) ∧ D.tup [D.int IntKind.i64 y.id, D.bool true] = D.tup [D.int IntKind.i64 (pickM l a b).fst, D.bool (pickM l a b).snd]) ∧ (lessM y y_1 = false → ∃ (y : Bz), (0 : Int) ≤ (twoM (↑(List.map Bz.toD l).length : Int) a b).fst ∧ (List.map Bz.toD l)[(twoM (↑(List.map Bz.toD l).length : Int) a b).fst.toNat]? = some (D.agg [D.int IntKind.i64 y.id, D.int IntKind.i64 y.w, D.int IntKind.i64 y.a]) ∧ D.tup [D.int IntKind.i64 y.id, D.bool true] = D.tup [D.int IntKind.i64 (pickM l a b).fst, D.bool (pickM l a b).snd])) := by
  simp only [List.length_map, rI, inK] at *
  refine chks (fun h => ?_) fun h => ?_
  · have : l = [] := by cases l with | nil => rfl | cons x l => simp at h; omega
    unfold pickM; rw [if_pos this]
  · have hne : l ≠ [] := by rintro rfl; exact h rfl
    have hlen : (1 : Int) ≤ (l.length : Int) := by omega
    obtain ⟨k1, k2, k3, k4⟩ := twoM_in (a := a) (b := b) hlen
    unfold pickM
    rw [if_neg hne]
    have el : ∀ i : Int, 0 ≤ i → i < (l.length : Int) → (l.map Bz.toD)[i.toNat]? = some (l.getD i.toNat default).toD := by
      intro i h0 h1
      have hlt : i.toNat < l.length := by omega
      rw [List.getElem?_map, List.getElem?_eq_getElem hlt, List.getD_eq_getElem?_getD, List.getElem?_eq_getElem hlt]
      rfl
    have ok : ∀ i : Int, 0 ≤ i → i < (l.length : Int) → (l.getD i.toNat default).ok := by
      intro i h0 h1
      have hlt : i.toNat < l.length := by omega
      rw [List.getD_eq_getElem?_getD, List.getElem?_eq_getElem hlt]
      exact hb _ (List.getElem_mem hlt)
    generalize (twoM (l.length : Int) a b).1 = i at *
    generalize (twoM (l.length : Int) a b).2 = j at *
    have e1 := el i k1 k2
    have e2 := el j k3 k4
    have o1 := ok i k1 k2
    have o2 := ok j k3 k4
    generalize l.getD i.toNat default = x at *
    generalize l.getD j.toNat default = y at *
    refine ⟨⟨by omega, by omega, by omega⟩, y, k3, e2, x, k1, e1, ⟨o2.2.1, o1.2.1⟩, fun hl => ?_, fun hl => ?_⟩
    · exact ⟨y, k3, e2, by rw [if_pos hl]⟩
    · exact ⟨x, k1, e1, by rw [if_neg (by rw [hl]; decide)]⟩
def pickS (vs : List D) : Option DOut := match vs with | [.sl f ys, .int .i64 a, .int .i64 b] => some ⟨ys = (ys.map dBz).map Bz.toD ∧ ys.length ≤ 9223372036854775807 ∧ (∀ x ∈ ys.map dBz, x.ok) ∧ rI a ∧ rI b, .tup [.int .i64 (pickM (ys.map dBz) a b).1, .bool (pickM (ys.map dBz) a b).2]⟩ | _ => none
def pickC : Ctr := ⟨31, pickS, by
  intro vs o ho hp
  unfold pickS at ho
  split at ho
  · rename_i f ys a b
    injection ho with ho; subst ho
    obtain ⟨h1, h2, h3, h4, h5⟩ := hp
    obtain ⟨l, hl⟩ : ∃ l : List Bz, ys = l.map Bz.toD := ⟨_, h1⟩
    subst hl
    simp only [map_dBz, List.length_map] at h2 h3 ⊢
    exact dataFun0 (C := cfgE [twoC, lessCt] []) (ctrs_ok [twoC, lessCt] rfl rfl) rfl Try.func31 (by kernel_rfl) (by kernel_rfl) (by kernel_rfl) (by kernel_rfl) (by kernel_rfl) (pickN f h2 h3 h4 h5)
  · cases ho⟩
def lawC22 : List Ctr := [twoC, lessCt, pickC, awakeC 29 (by kernel_rfl)]
def ordCfg : WCfg := cfgE lawC22 [(60, .w), (65, .w), (61, .n), (66, .n), (42, .f), (57, .f), (90, .t), (101, .t)]
theorem lessM_iff (x y : Bz) : lessM x y = true ↔ opn x.a * max y.w 1 < opn y.a * max x.w 1 ∨ (opn x.a * max y.w 1 = opn y.a * max x.w 1 ∧ x.id < y.id) := by
  unfold lessM lessC
  have h1 := opn_in x.a
  have h2 := opn_in y.a
  rw [decide_eq_true_eq, pr_pos (by omega) (by omega), pr_pos (by omega) (by omega)]
  have := cmpI_cases (opn x.a * max y.w 1) (opn y.a * max x.w 1)
  generalize cmpI (opn x.a * max y.w 1) (opn y.a * max x.w 1) = c at *
  omega
theorem cross3 {a b c u v w : Int} (hu : 0 < u) (hv : 0 < v) (hw : 0 < w) (h1 : a * v ≤ b * u) (h2 : b * w ≤ c * v) : a * w ≤ c * u ∧ (a * v < b * u ∨ b * w < c * v → a * w < c * u) := by
  have e1 : a * w * v = a * v * w := by rw [Int.mul_assoc, Int.mul_comm w, ← Int.mul_assoc]
  have e2 : b * u * w = b * w * u := by rw [Int.mul_assoc, Int.mul_comm u, ← Int.mul_assoc]
  have e3 : c * v * u = c * u * v := by rw [Int.mul_assoc, Int.mul_comm v, ← Int.mul_assoc]
  have m1 := Int.mul_le_mul_of_nonneg_right h1 (show 0 ≤ w by omega)
  have m2 := Int.mul_le_mul_of_nonneg_right h2 (show 0 ≤ u by omega)
  refine ⟨Int.le_of_mul_le_mul_right (a := v) (by omega) hv, fun h => Int.lt_of_mul_lt_mul_right (a := v) ?_ (by omega)⟩
  rcases h with h | h
  · have := Int.mul_lt_mul_of_pos_right h hw; omega
  · have := Int.mul_lt_mul_of_pos_right h hu; omega
theorem lessM_trans {x y z : Bz} (h1 : lessM x y = true) (h2 : lessM y z = true) : lessM x z = true := by
  rw [lessM_iff] at *
  have := cross3 (a := opn x.a) (b := opn y.a) (c := opn z.a) (u := max x.w 1) (v := max y.w 1) (w := max z.w 1) (by omega) (by omega) (by omega) (by omega) (by omega)
  generalize opn x.a * max y.w 1 = p1 at *
  generalize opn y.a * max x.w 1 = p2 at *
  generalize opn y.a * max z.w 1 = p3 at *
  generalize opn z.a * max y.w 1 = p4 at *
  generalize opn x.a * max z.w 1 = p5 at *
  generalize opn z.a * max x.w 1 = p6 at *
  omega
theorem lessM_self (x : Bz) : lessM x x = false := by
  cases h : lessM x x with
  | false => rfl
  | true => rw [lessM_iff] at h; omega
theorem less_more {i w v : Int} {y : Bz} (hv : 0 ≤ v) (hv1 : v < 1000) (h : lessM ⟨i, w, v⟩ y = false) : lessM ⟨i, w, v + 1⟩ y = false := by
  cases h' : lessM ⟨i, w, v + 1⟩ y with
  | false => rfl
  | true =>
    exfalso
    have hn : ¬lessM ⟨i, w, v⟩ y = true := by rw [h]; decide
    rw [lessM_iff] at h' hn
    simp only at h' hn
    have e1 : opn (v + 1) = opn v + 1 := by unfold opn; omega
    rw [e1, Int.add_mul, Int.one_mul] at h'
    have : 1 ≤ max y.w 1 := by omega
    generalize opn v * max y.w 1 = p at *
    generalize opn y.a * max w 1 = q at *
    omega
theorem less_heavy {i w v : Int} {y : Bz} (hw : 1 ≤ w) (h : lessM ⟨i, w, v⟩ y = true) : lessM ⟨i, w + 1, v⟩ y = true := by
  rw [lessM_iff] at *
  simp only at *
  have e1 : max (w + 1) 1 = max w 1 + 1 := by omega
  have h2 := opn_in y.a
  rw [e1, Int.mul_add, Int.mul_one]
  generalize opn v * max y.w 1 = p at *
  generalize opn y.a * max w 1 = q at *
  omega
theorem ordN (x y z : Bz) (hx : x.ok) (hy : y.ok) (hz : z.ok) : (decide (x.id = y.id) = true → (rI x.w ∧ rI x.w) ∧ ((!lessM x x) = true → True ∧ D.bool true = D.bool true) ∧ ((!lessM x x) = false → D.bool false = D.bool true)) ∧ (decide (x.id = y.id) = false → (decide (y.id = z.id) = true → (rI x.w ∧ rI x.w) ∧ ((!lessM x x) = true → True ∧ D.bool true = D.bool true) ∧ ((!lessM x x) = false → D.bool false = D.bool true)) ∧ (decide (y.id = z.id) = false → (decide (x.id = z.id) = true → (rI x.w ∧ rI x.w) ∧ ((!lessM x x) = true → True ∧ D.bool true = D.bool true) ∧ ((!lessM x x) = false → D.bool false = D.bool true)) ∧ (decide (x.id = z.id) = false → (rI x.w ∧ rI y.w) ∧ (rI y.w ∧ rI x.w) ∧ decide (lessM x y = lessM y x) = false ∧ (rI x.w ∧ rI y.w) ∧ (lessM x y = true → (rI y.w ∧ rI z.w) ∧ (lessM y z = true → (rI x.w ∧ rI z.w) ∧ (!lessM x z) = false ∧ (0 : Int) ≤ wr IntKind.u64 x.a ∧ (0 : Int) < (1000 : Int) ∧ ∀ (v : Int), v = wr IntKind.u64 x.a % (1000 : Int) → inK IntKind.i64 v ∧ (0 : Int) ≤ wr IntKind.u64 x.w ∧ (0 : Int) < (20 : Int) ∧ ∀ (v_1 : Int), v_1 = wr IntKind.u64 x.w % (20 : Int) → inK IntKind.i64 v_1 ∧ inK IntKind.i64 ((1 : Int) + v_1) ∧ inK IntKind.i64 (v + (1 : Int)) ∧ inK IntKind.i64 ((1 : Int) + v_1 + (1 : Int)) ∧ (rI ((1 : Int) + v_1) ∧ rI y.w) ∧ (lessM (Bz.mk x.id ((1 : Int) + v_1) v) y = true → (rI ((1 : Int) + v_1) ∧ rI y.w) ∧ ((!lessM (Bz.mk x.id ((1 : Int) + v_1) v) y) = true → True ∧ D.bool true = D.bool true) ∧ ((!lessM (Bz.mk x.id ((1 : Int) + v_1) v) y) = false → (rI ((1 : Int) + v_1 + (1 : Int)) ∧ rI y.w) ∧ lessM (Bz.mk x.id ((1 : Int) + v_1 + (1 : Int)) v) y = true ∧ True ∧ D.bool true = D.bool true)) ∧ (lessM (Bz.mk x.id ((1 : Int) + v_1) v) y = false → (rI ((1 : Int) + v_1) ∧ rI y.w) ∧ (!lessM (Bz.mk x.id ((1 : Int) + v_1) (v + (1 : Int))) y) = true ∧ (rI ((1 : Int) + v_1) ∧ rI y.w) ∧ ((!lessM (Bz.mk x.id ((1 : Int) + v_1) v) y) = true → True ∧ D.bool true = D.bool true) ∧ ((!lessM (Bz.mk x.id ((1 : Int) + v_1) v) y) = false → (rI ((1 : Int) + v_1 + (1 : Int)) ∧ rI y.w) ∧ lessM (Bz.mk x.id ((1 : Int) + v_1 + (1 : Int)) v) y = true ∧ True ∧ D.bool true = D.bool true))) ∧ (lessM y z = false → (0 : Int) ≤ wr IntKind.u64 x.a ∧ (0 : Int) < (1000 : Int) ∧ ∀ (v : Int), v = wr IntKind.u64 x.a % (1000 : Int) → inK IntKind.i64 v ∧ (0 : Int) ≤ wr IntKind.u64 x.w ∧ (0 : Int) < (20 : Int) ∧ ∀ (v_1 : Int), v_1 = wr IntKind.u64 x.w % (20 : Int) → inK IntKind.i64 v_1 ∧ inK IntKind.i64 ((1 : Int) + v_1) ∧ inK IntKind.i64 (v + (1 : Int)) ∧ inK IntKind.i64 ((1 : Int) + v_1 + (1 : Int)) ∧ (rI ((1 : Int) + v_1) ∧ rI y.w) ∧ (lessM (Bz.mk x.id ((1 : Int) + v_1) v) y = true → (rI ((1 : Int) + v_1) ∧ rI y.w) ∧ ((!lessM (Bz.mk x.id ((1 : Int) + v_1) v) y) = true → True ∧ D.bool true = D.bool true) ∧ ((!lessM (Bz.mk x.id ((1 : Int) + v_1) v) y) = false → (rI ((1 : Int) + v_1 + (1 : Int)) ∧ rI y.w) ∧ lessM (Bz.mk x.id ((1 : Int) + v_1 + (1 : Int)) v) y = true ∧ True ∧ D.bool true = D.bool true)) ∧ (lessM (Bz.mk x.id ((1 : Int) + v_1) v) y = false → (rI ((1 : Int) + v_1) ∧ rI y.w) ∧ (!lessM (Bz.mk x.id ((1 : Int) + v_1) (v + (1 : Int))) y) = true ∧ (rI ((1 : Int) + v_1) ∧ rI y.w) ∧ ((!lessM (Bz.mk x.id ((1 : Int) + v_1) v) y) = true → True ∧ D.bool true = D.bool true) ∧ ((!lessM (Bz.mk x.id ((1 : Int) + v_1) v) y) = false → (rI ((1 : Int) + v_1 + (1 : Int)) ∧ rI y.w) ∧ lessM (Bz.mk x.id ((1 : Int) + v_1 + (1 : Int)) v) y = true ∧ True ∧ D.bool true = D.bool true)))) ∧ (lessM x y = false → (0 : Int) ≤ wr IntKind.u64 x.a ∧ (0 : Int) < (1000 : Int) ∧ ∀ (v : Int), v = wr IntKind.u64 x.a % (1000 : Int) → inK IntKind.i64 v ∧ (0 : Int) ≤ wr IntKind.u64 x.w ∧ (0 : Int) < (20 : Int) ∧ ∀ (v_1 : Int), v_1 = wr IntKind.u64 x.w % (20 : Int) → inK IntKind.i64 v_1 ∧ inK IntKind.i64 ((1 : Int) + v_1) ∧ inK IntKind.i64 (v + (1 : Int)) ∧ inK IntKind.i64 ((1 : Int) + v_1 + (1 : Int)) ∧ (rI ((1 : Int) + v_1) ∧ rI y.w) ∧ (lessM (Bz.mk x.id ((1 : Int) + v_1) v) y = true → (rI ((1 : Int) + v_1) ∧ rI y.w) ∧ ((!lessM (Bz.mk x.id ((1 : Int) + v_1) v) y) = true → True ∧ D.bool true = D.bool true) ∧ ((!lessM (Bz.mk x.id ((1 : Int) + v_1) v) y) = false → (rI ((1 : Int) + v_1 + (1 : Int)) ∧ rI y.w) ∧ lessM (Bz.mk x.id ((1 : Int) + v_1 + (1 : Int)) v) y = true ∧ True ∧ D.bool true = D.bool true)) ∧ (lessM (Bz.mk x.id ((1 : Int) + v_1) v) y = false → (rI ((1 : Int) + v_1) ∧ rI y.w) ∧ (!lessM (Bz.mk x.id ((1 : Int) + v_1) (v + (1 : Int))) y) = true ∧ (rI ((1 : Int) + v_1) ∧ rI y.w) ∧ ((!lessM (Bz.mk x.id ((1 : Int) + v_1) v) y) = true → True ∧ D.bool true = D.bool true) ∧ ((!lessM (Bz.mk x.id ((1 : Int) + v_1) v) y) = false → (rI ((1 : Int) + v_1 + (1 : Int)) ∧ rI y.w) ∧ lessM (Bz.mk x.id ((1 : Int) + v_1 + (1 : Int)) v) y = true ∧ True ∧ D.bool true = D.bool true)))))) := by
  unfold Bz.ok at *
  obtain ⟨_, hxw, _⟩ := hx
  obtain ⟨_, hyw, _⟩ := hy
  obtain ⟨_, hzw, _⟩ := hz
  have sf := lessM_self x
  simp only [sf]
  unfold rI at *
  refine chks (fun _ => ⟨⟨hxw, hxw⟩, chkb rfl ⟨trivial, trivial⟩⟩) fun n1 => chks (fun _ => ⟨⟨hxw, hxw⟩, chkb rfl ⟨trivial, trivial⟩⟩) fun n2 => chks (fun _ => ⟨⟨hxw, hxw⟩, chkb rfl ⟨trivial, trivial⟩⟩) fun n3 => ?_
  have asy := lessM_asym n1
  refine ⟨⟨hxw, hyw⟩, ⟨hyw, hxw⟩, by rw [asy]; cases lessM y x <;> rfl, ⟨hxw, hyw⟩, ?_⟩
  have fin : ∀ v w : Int, v = wr .u64 x.a % 1000 → w = wr .u64 x.w % 20 → (0 ≤ v ∧ v < 1000 ∧ 0 ≤ w ∧ w < 20) ∧ (lessM ⟨x.id, 1 + w, v⟩ y = false → lessM ⟨x.id, 1 + w, v + 1⟩ y = false) ∧ (lessM ⟨x.id, 1 + w, v⟩ y = true → lessM ⟨x.id, 1 + w + 1, v⟩ y = true) :=
    fun v w hv hw => ⟨by omega, less_more (by omega) (by omega), less_heavy (by omega)⟩
  have tr := fun h => lessM_trans (x := x) (y := y) (z := z) h
  have w1 : 0 ≤ wr .u64 x.a := by simp only [wr]; omega
  have w2 : 0 ≤ wr .u64 x.w := by simp only [wr]; omega
  generalize lessM y z = lyz at *
  generalize lessM x z = lxz at *
  generalize lessM x y = lxy at *
  have tail : ∀ {A : Prop}, (∀ v w : Int, v = wr .u64 x.a % 1000 → w = wr .u64 x.w % 20 → (0 ≤ v ∧ v < 1000 ∧ 0 ≤ w ∧ w < 20) → A) → A := fun {A} h => h _ _ rfl rfl (fin _ _ rfl rfl).1
  simp only [inK]
  cases lxy <;> cases lyz <;> cases lxz
  all_goals try (exfalso; exact absurd (tr rfl rfl) (by decide))
  all_goals simp only [Bool.false_eq_true, Bool.true_eq_false, false_implies, true_implies, and_true, true_and, eq_self, Bool.not_true, Bool.not_false]
  all_goals
    repeat (first | (refine ⟨by omega, ?_⟩))
    intro v hv
    repeat (first | (refine ⟨by omega, ?_⟩))
    intro w hw
    obtain ⟨k1, k2, k3⟩ := fin v w hv hw
    generalize lessM ⟨x.id, 1 + w, v⟩ y = L0 at *
    generalize lessM ⟨x.id, 1 + w, v + 1⟩ y = L1 at *
    generalize lessM ⟨x.id, 1 + w + 1, v⟩ y = L2 at *
    cases L0 <;> cases L1 <;> cases L2 <;> simp at k2 k3 ⊢ <;> omega
theorem bz_of {x : List D} (o : Ok [.int .i64, .int .i64, .int .i64] x) : ∃ b : Bz, x = b.toD.cells ∧ b.ok := by
  cases o with | int h0 t0 =>
  cases t0 with | int h1 t1 =>
  cases t1 with | int h2 t2 =>
  cases t2
  exact ⟨⟨_, _, _⟩, rfl, wf_i64 h0, wf_i64 h1, wf_i64 h2⟩
theorem leastOrders_law {x0 : List D} (o0 : Ok [.int .i64, .int .i64, .int .i64] x0) {x1 : List D} (o1 : Ok [.int .i64, .int .i64, .int .i64] x1) {x2 : List D} (o2 : Ok [.int .i64, .int .i64, .int .i64] x2) : DataFun Try.prog 6 [vOf true x0, vOf true x1, vOf true x2] (.bool true) := by
  obtain ⟨x, rfl, hx⟩ := bz_of o0
  obtain ⟨y, rfl, hy⟩ := bz_of o1
  obtain ⟨z, rfl, hz⟩ := bz_of o2
  exact dataFun0 (C := ordCfg) (ctrs_ok lawC22 rfl rfl) rfl Try.func6 (by kernel_rfl) (by kernel_rfl) (by kernel_rfl) (by kernel_rfl) (by kernel_rfl) (ordN x y z hx hy hz)
end Go.Proofs.Ytfjgngdomjjpgaa.Dv
