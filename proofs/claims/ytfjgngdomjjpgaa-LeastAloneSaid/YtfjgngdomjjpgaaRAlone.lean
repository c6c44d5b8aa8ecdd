/- One alone, and two: the law. -/
import Derived.Test.YtfjgngdomjjpgaaRPick
import Derived.Test.YtfjgngdomjjpgaaDvTop
set_option linter.unusedVariables false
set_option linter.unusedSimpArgs false
namespace Go.Proofs.Ytfjgngdomjjpgaa.Dv
open Go Go.Proofs
theorem less_asym {i w c j v d : Int} (h : i ≠ j) : lessI i w c j v d = !lessI j v d i w c := by
  unfold lessI
  have h1 := cmpI_cases (pr (opn c) (max v 1)) (pr (opn d) (max w 1))
  have h2 := cmpI_cases (pr (opn d) (max w 1)) (pr (opn c) (max v 1))
  generalize cmpI (pr (opn c) (max v 1)) (pr (opn d) (max w 1)) = x at *
  generalize cmpI (pr (opn d) (max w 1)) (pr (opn c) (max v 1)) = y at *
  rcases h1 with h1 | h1 | h1 <;> rcases h2 with h2 | h2 | h2 <;> first | (exfalso; omega) | (rw [h1.2, h2.2]; by_cases hl : i < j <;> by_cases hm : j < i <;> simp [hl, hm] <;> omega)
theorem pick2_val {i w c j v d : Int} (a b : Int) (h : i ≠ j) : pick2 i w c j v d a b = if lessI i w c j v d = true then i else j := by
  unfold pick2
  rw [less_asym h]
  cases lessI j v d i w c <;> split <;> rfl
def aloneSpec (f : FuncId) (vs : List D) : Option (List Prop × D) := match f, vs with
  | 31, [.sl true [], .int .i64 _, .int .i64 _] => some ([], .tup [.int .i64 0, .bool false])
  | 31, [.sl true [.agg [.int .i64 i, .int .i64 w, .int .i64 _]], .int .i64 _, .int .i64 _] => some ([w < 9223372036854775808], .tup [.int .i64 i, .bool true])
  | 31, [.sl true [.agg [.int .i64 i, .int .i64 w, .int .i64 c], .agg [.int .i64 j, .int .i64 v, .int .i64 d]], .int .i64 a, .int .i64 b] => some ([w < 9223372036854775808, v < 9223372036854775808], .tup [.int .i64 (pick2 i w c j v d a b), .bool true])
  | 32, [.agg [.int .i64 i, .int .i64 w, .int .i64 a], .agg [.int .i64 j, .int .i64 v, .int .i64 b]] => some ([w < 9223372036854775808, v < 9223372036854775808], .bool (lessI i w a j v b))
  | 29, [] => some ([], .bool true)
  | _, _ => none
theorem awake22 : Fun Try.prog M1 29 [] (.bool true) := Fun_of_runN 60 rfl rfl (by kernel_rfl)
theorem aloneOkS : SpecOk Try.prog M1 aloneSpec := by
  intro g vs ts r h ha
  unfold aloneSpec at h
  split at h
  · injection h with h; injection h with h1 h2; subst h1 h2; exact pick0_fun _ _
  · injection h with h; injection h with h1 h2; subst h1 h2; exact pick1_fun _ _ ha.1
  · injection h with h; injection h with h1 h2; subst h1 h2; exact pick2_fun _ _ ha.1 ha.2.1
  · injection h with h; injection h with h1 h2; subst h1 h2; exact less_fun ha.1 ha.2.1
  · injection h with h; injection h with h1 h2; subst h1 h2; exact awake22
  · cases h
theorem calm8 : calmFn Try.f8 = true := by kernel_rfl
theorem alone_fun {i w c j v d : Int} (a b : Int) (hw : w < 9223372036854775808) (hv : v < 9223372036854775808) :
    Fun Try.prog M1 8 [.agg [.int .i64 i, .int .i64 w, .int .i64 c], .agg [.int .i64 j, .int .i64 v, .int .i64 d], .int .i64 a, .int .i64 b] (.bool true) := by
  rcases Bool.eq_false_or_eq_true (decide (i = j)) with h21 | h21
  · -- true
    exact path aloneOkS (by kernel_rfl) rfl rfl Try.func8 (by kernel_rfl) calm8 [{ tag := (21 : Nat), a := AnsK.b true }] (ts := [decide (i = j) = true]) (by kernel_rfl) ⟨(by first | assumption | decide | omega | (simp only [decide_eq_true_eq, decide_eq_false_iff_not, ne_eq] at *; omega)), trivial⟩
  · -- false
    obtain ⟨v44, hv44⟩ : ∃ z_ : Int, pick2 i w c j v d a b = z_ := ⟨_, rfl⟩
    have hij : i ≠ j := of_decide_eq_false h21
    have q44 : v44 = if lessI i w c j v d = true then i else j := by rw [← hv44]; exact pick2_val a b hij
    obtain ⟨v53, hv53⟩ : ∃ z_ : Int, pick2 j v d i w c b a = z_ := ⟨_, rfl⟩
    have q53 : v53 = if lessI i w c j v d = true then i else j := by rw [← hv53, pick2_val b a (Ne.symm hij), less_asym hij]; cases lessI j v d i w c <;> rfl
    rcases Bool.eq_false_or_eq_true (decide (i = i)) with h62 | h62
    · -- true
      rcases Bool.eq_false_or_eq_true (decide (v44 = v53)) with h77 | h77
      · -- true
        rcases Bool.eq_false_or_eq_true (decide (decide (v44 = i) = lessI i w c j v d)) with h87 | h87
        · -- true
          exact path aloneOkS (by kernel_rfl) rfl rfl Try.func8 (by kernel_rfl) calm8 [{ tag := (21 : Nat), a := AnsK.b false }, { tag := (44 : Nat), a := AnsK.si v44 }, { tag := (53 : Nat), a := AnsK.si v53 }, { tag := (62 : Nat), a := AnsK.b true }, { tag := (77 : Nat), a := AnsK.b true }, { tag := (87 : Nat), a := AnsK.b true }] (ts := [decide (i = j) = false, w < (9223372036854775808 : Int), w < (9223372036854775808 : Int), v < (9223372036854775808 : Int), pick2 i w c j v d a b = v44, v < (9223372036854775808 : Int), w < (9223372036854775808 : Int), pick2 j v d i w c b a = v53, decide (i = i) = true, decide (v44 = v53) = true, w < (9223372036854775808 : Int), v < (9223372036854775808 : Int), decide (decide (v44 = i) = lessI i w c j v d) = true]) (by kernel_rfl) ⟨(by first | assumption | decide | omega | (simp only [decide_eq_true_eq, decide_eq_false_iff_not, ne_eq] at *; omega)), (by first | assumption | decide | omega | (simp only [decide_eq_true_eq, decide_eq_false_iff_not, ne_eq] at *; omega)), (by first | assumption | decide | omega | (simp only [decide_eq_true_eq, decide_eq_false_iff_not, ne_eq] at *; omega)), (by first | assumption | decide | omega | (simp only [decide_eq_true_eq, decide_eq_false_iff_not, ne_eq] at *; omega)), (by first | assumption | decide | omega | (simp only [decide_eq_true_eq, decide_eq_false_iff_not, ne_eq] at *; omega)), (by first | assumption | decide | omega | (simp only [decide_eq_true_eq, decide_eq_false_iff_not, ne_eq] at *; omega)), (by first | assumption | decide | omega | (simp only [decide_eq_true_eq, decide_eq_false_iff_not, ne_eq] at *; omega)), (by first | assumption | decide | omega | (simp only [decide_eq_true_eq, decide_eq_false_iff_not, ne_eq] at *; omega)), (by first | assumption | decide | omega | (simp only [decide_eq_true_eq, decide_eq_false_iff_not, ne_eq] at *; omega)), (by first | assumption | decide | omega | (simp only [decide_eq_true_eq, decide_eq_false_iff_not, ne_eq] at *; omega)), (by first | assumption | decide | omega | (simp only [decide_eq_true_eq, decide_eq_false_iff_not, ne_eq] at *; omega)), (by first | assumption | decide | omega | (simp only [decide_eq_true_eq, decide_eq_false_iff_not, ne_eq] at *; omega)), (by first | assumption | decide | omega | (simp only [decide_eq_true_eq, decide_eq_false_iff_not, ne_eq] at *; omega)), trivial⟩
        · -- false
          exfalso; (first | exact absurd rfl (of_decide_eq_false h62) | exact absurd (q44.trans q53.symm) (of_decide_eq_false h77) | (have h88 := of_decide_eq_false h87; apply h88; rw [q44]; cases hL : lessI i w c j v d <;> simp <;> omega))
      · -- false
        exfalso; (first | exact absurd rfl (of_decide_eq_false h62) | exact absurd (q44.trans q53.symm) (of_decide_eq_false h77) | (have h88 := of_decide_eq_false h87; apply h88; rw [q44]; cases hL : lessI i w c j v d <;> simp <;> omega))
    · -- false
      exfalso; (first | exact absurd rfl (of_decide_eq_false h62) | exact absurd (q44.trans q53.symm) (of_decide_eq_false h77) | (have h88 := of_decide_eq_false h87; apply h88; rw [q44]; cases hL : lessI i w c j v d <;> simp <;> omega))
  -- 5 paths

theorem leastAlone_law {x0 : List D} (o0 : Ok [.int .i64, .int .i64, .int .i64] x0) {x1 : List D} (o1 : Ok [.int .i64, .int .i64, .int .i64] x1) {x2 : List D} (o2 : Ok [.int .i64] x2) {x3 : List D} (o3 : Ok [.int .i64] x3) :
    ∃ τ, run Try.prog M1 8 [vOf true x0, vOf true x1, vOf false x2, vOf false x3] [] = some (.bool true, τ) := by
  cases o0 with | int h0 t0 => cases t0 with | int h1 t1 => cases t1 with | int h2 t2 => cases t2; cases o1 with | int k0 s0 => cases s0 with | int k1 s1 => cases s1 with | int k2 s2 => cases s2; cases o2 with | int l0 u0 => cases u0; cases o3 with | int m0 y0 => cases y0; exact Fun_bool (alone_fun _ _ (wf_i64 h1).2 (wf_i64 k1).2)
end Go.Proofs.Ytfjgngdomjjpgaa.Dv
