/- The less busy of two, picked. -/
import Derived.Test.YtfjgngdomjjpgaaRLeast
import Derived.Test.YtfjgngdomjjpgaaRDraws
set_option linter.unusedVariables false
set_option linter.unusedSimpArgs false
namespace Go.Proofs.Ytfjgngdomjjpgaa.Dv
open Go Go.Proofs
theorem two2 (a b : Int) : ((twoI 2 a b).1 = 0 ∧ (twoI 2 a b).2 = 1) ∨ ((twoI 2 a b).1 = 1 ∧ (twoI 2 a b).2 = 0) := by
  have h1 := draw_mod (d := a) (n := 2) (by omega) (by omega)
  have h2 := draw_mod (d := b) (n := 1) (by omega) (by omega)
  have e : IntKind.wrap IntKind.i64 (2 - 1) = 1 := by decide
  have e2 : draw b 1 = 0 := by omega
  unfold twoI
  rw [if_neg (by omega), e, e2]
  split
  · left; exact ⟨by omega, (show IntKind.wrap IntKind.i64 (0 + 1) = 1 by decide)⟩
  · right; exact ⟨by omega, rfl⟩
def pick2 (i w c j v d a b : Int) : Int := if (twoI 2 a b).1 = 0 then (if lessI j v d i w c = true then j else i) else (if lessI i w c j v d = true then i else j)
def pickSpec (f : FuncId) (vs : List D) : Option (List Prop × D) := match f, vs with
  | 30, [.int .i64 n, .int .i64 a, .int .i64 b] => some ([], .tup [.int .i64 (twoI n a b).1, .int .i64 (twoI n a b).2])
  | 32, [.agg [.int .i64 i, .int .i64 w, .int .i64 a], .agg [.int .i64 j, .int .i64 v, .int .i64 b]] => some ([w < 9223372036854775808, v < 9223372036854775808], .bool (lessI i w a j v b))
  | _, _ => none
theorem pickOkS : SpecOk Try.prog M1 pickSpec := by
  intro g vs ts r h ha
  unfold pickSpec at h
  split at h
  · injection h with h; injection h with h1 h2; subst h1 h2; exact two_fun _ _ _
  · injection h with h; injection h with h1 h2; subst h1 h2; exact less_fun ha.1 ha.2.1
  · cases h
theorem calm31 : calmFn Try.f31 = true := by kernel_rfl
theorem pick0_fun (a b : Int) : Fun Try.prog M1 31 [.sl true [], .int .i64 a, .int .i64 b] (.tup [.int .i64 0, .bool false]) := by
  have e : (D.tup [D.int IntKind.i64 (0 : Int), D.bool false] : D) = (.tup [.int .i64 0, .bool false]) := by rfl
  rw [← e]
  exact path pickOkS (by kernel_rfl) rfl rfl Try.func31 (by kernel_rfl) calm31 [] (ts := []) (by kernel_rfl) trivial
  -- 1 paths

theorem pick1_fun {i w c : Int} (a b : Int) (hw : w < 9223372036854775808) : Fun Try.prog M1 31 [.sl true [.agg [.int .i64 i, .int .i64 w, .int .i64 c]], .int .i64 a, .int .i64 b] (.tup [.int .i64 i, .bool true]) := by
  rcases Bool.eq_false_or_eq_true (lessI i w c i w c) with h29 | h29
  · -- true
    have e : (D.tup [D.int IntKind.i64 i, D.bool true] : D) = (.tup [.int .i64 i, .bool true]) := by rfl
    rw [← e]
    exact path pickOkS (by kernel_rfl) rfl rfl Try.func31 (by kernel_rfl) calm31 [{ tag := (19 : Nat), a := AnsK.si (0 : Int) }, { tag := (20 : Nat), a := AnsK.si (0 : Int) }, { tag := (29 : Nat), a := AnsK.b true }] (ts := [(0 : Int) = (0 : Int), (0 : Int) = (0 : Int), w < (9223372036854775808 : Int), w < (9223372036854775808 : Int), lessI i w c i w c = true]) (by kernel_rfl) ⟨(by first | assumption | decide | omega | (simp only [decide_eq_true_eq, decide_eq_false_iff_not, ne_eq] at *; omega)), (by first | assumption | decide | omega | (simp only [decide_eq_true_eq, decide_eq_false_iff_not, ne_eq] at *; omega)), (by first | assumption | decide | omega | (simp only [decide_eq_true_eq, decide_eq_false_iff_not, ne_eq] at *; omega)), (by first | assumption | decide | omega | (simp only [decide_eq_true_eq, decide_eq_false_iff_not, ne_eq] at *; omega)), (by first | assumption | decide | omega | (simp only [decide_eq_true_eq, decide_eq_false_iff_not, ne_eq] at *; omega)), trivial⟩
  · -- false
    have e : (D.tup [D.int IntKind.i64 i, D.bool true] : D) = (.tup [.int .i64 i, .bool true]) := by rfl
    rw [← e]
    exact path pickOkS (by kernel_rfl) rfl rfl Try.func31 (by kernel_rfl) calm31 [{ tag := (19 : Nat), a := AnsK.si (0 : Int) }, { tag := (20 : Nat), a := AnsK.si (0 : Int) }, { tag := (29 : Nat), a := AnsK.b false }] (ts := [(0 : Int) = (0 : Int), (0 : Int) = (0 : Int), w < (9223372036854775808 : Int), w < (9223372036854775808 : Int), lessI i w c i w c = false]) (by kernel_rfl) ⟨(by first | assumption | decide | omega | (simp only [decide_eq_true_eq, decide_eq_false_iff_not, ne_eq] at *; omega)), (by first | assumption | decide | omega | (simp only [decide_eq_true_eq, decide_eq_false_iff_not, ne_eq] at *; omega)), (by first | assumption | decide | omega | (simp only [decide_eq_true_eq, decide_eq_false_iff_not, ne_eq] at *; omega)), (by first | assumption | decide | omega | (simp only [decide_eq_true_eq, decide_eq_false_iff_not, ne_eq] at *; omega)), (by first | assumption | decide | omega | (simp only [decide_eq_true_eq, decide_eq_false_iff_not, ne_eq] at *; omega)), trivial⟩
  -- 2 paths

theorem pick2_fun {i w c j v d : Int} (a b : Int) (hw : w < 9223372036854775808) (hv : v < 9223372036854775808) :
    Fun Try.prog M1 31 [.sl true [.agg [.int .i64 i, .int .i64 w, .int .i64 c], .agg [.int .i64 j, .int .i64 v, .int .i64 d]], .int .i64 a, .int .i64 b] (.tup [.int .i64 (pick2 i w c j v d a b), .bool true]) := by
  rcases two2 a b with ⟨hf, hs⟩ | ⟨hf, hs⟩
  · skip
    rcases Bool.eq_false_or_eq_true (lessI j v d i w c) with h29 | h29
    · -- true
      have e : (D.tup [D.int IntKind.i64 j, D.bool true] : D) = (.tup [.int .i64 (pick2 i w c j v d a b), .bool true]) := by (unfold pick2; rw [hf]; simp [h29])
      rw [← e]
      exact path pickOkS (by kernel_rfl) rfl rfl Try.func31 (by kernel_rfl) calm31 [{ tag := (19 : Nat), a := AnsK.si (0 : Int) }, { tag := (20 : Nat), a := AnsK.si (1 : Int) }, { tag := (29 : Nat), a := AnsK.b true }] (ts := [(twoI (↑(List.length [D.agg [D.int IntKind.i64 i, D.int IntKind.i64 w, D.int IntKind.i64 c], D.agg [D.int IntKind.i64 j, D.int IntKind.i64 v, D.int IntKind.i64 d]])) a b).1 = (0 : Int), (twoI (↑(List.length [D.agg [D.int IntKind.i64 i, D.int IntKind.i64 w, D.int IntKind.i64 c], D.agg [D.int IntKind.i64 j, D.int IntKind.i64 v, D.int IntKind.i64 d]])) a b).2 = (1 : Int), v < (9223372036854775808 : Int), w < (9223372036854775808 : Int), lessI j v d i w c = true]) (by kernel_rfl) ⟨(by first | assumption | decide | omega | (simp only [decide_eq_true_eq, decide_eq_false_iff_not, ne_eq] at *; omega)), (by first | assumption | decide | omega | (simp only [decide_eq_true_eq, decide_eq_false_iff_not, ne_eq] at *; omega)), (by first | assumption | decide | omega | (simp only [decide_eq_true_eq, decide_eq_false_iff_not, ne_eq] at *; omega)), (by first | assumption | decide | omega | (simp only [decide_eq_true_eq, decide_eq_false_iff_not, ne_eq] at *; omega)), (by first | assumption | decide | omega | (simp only [decide_eq_true_eq, decide_eq_false_iff_not, ne_eq] at *; omega)), trivial⟩
    · -- false
      have e : (D.tup [D.int IntKind.i64 i, D.bool true] : D) = (.tup [.int .i64 (pick2 i w c j v d a b), .bool true]) := by (unfold pick2; rw [hf]; simp [h29])
      rw [← e]
      exact path pickOkS (by kernel_rfl) rfl rfl Try.func31 (by kernel_rfl) calm31 [{ tag := (19 : Nat), a := AnsK.si (0 : Int) }, { tag := (20 : Nat), a := AnsK.si (1 : Int) }, { tag := (29 : Nat), a := AnsK.b false }] (ts := [(twoI (↑(List.length [D.agg [D.int IntKind.i64 i, D.int IntKind.i64 w, D.int IntKind.i64 c], D.agg [D.int IntKind.i64 j, D.int IntKind.i64 v, D.int IntKind.i64 d]])) a b).1 = (0 : Int), (twoI (↑(List.length [D.agg [D.int IntKind.i64 i, D.int IntKind.i64 w, D.int IntKind.i64 c], D.agg [D.int IntKind.i64 j, D.int IntKind.i64 v, D.int IntKind.i64 d]])) a b).2 = (1 : Int), v < (9223372036854775808 : Int), w < (9223372036854775808 : Int), lessI j v d i w c = false]) (by kernel_rfl) ⟨(by first | assumption | decide | omega | (simp only [decide_eq_true_eq, decide_eq_false_iff_not, ne_eq] at *; omega)), (by first | assumption | decide | omega | (simp only [decide_eq_true_eq, decide_eq_false_iff_not, ne_eq] at *; omega)), (by first | assumption | decide | omega | (simp only [decide_eq_true_eq, decide_eq_false_iff_not, ne_eq] at *; omega)), (by first | assumption | decide | omega | (simp only [decide_eq_true_eq, decide_eq_false_iff_not, ne_eq] at *; omega)), (by first | assumption | decide | omega | (simp only [decide_eq_true_eq, decide_eq_false_iff_not, ne_eq] at *; omega)), trivial⟩
    -- 2 paths

  · skip
    rcases Bool.eq_false_or_eq_true (lessI i w c j v d) with h29 | h29
    · -- true
      have e : (D.tup [D.int IntKind.i64 i, D.bool true] : D) = (.tup [.int .i64 (pick2 i w c j v d a b), .bool true]) := by (unfold pick2; rw [hf]; simp [h29])
      rw [← e]
      exact path pickOkS (by kernel_rfl) rfl rfl Try.func31 (by kernel_rfl) calm31 [{ tag := (19 : Nat), a := AnsK.si (1 : Int) }, { tag := (20 : Nat), a := AnsK.si (0 : Int) }, { tag := (29 : Nat), a := AnsK.b true }] (ts := [(twoI (↑(List.length [D.agg [D.int IntKind.i64 i, D.int IntKind.i64 w, D.int IntKind.i64 c], D.agg [D.int IntKind.i64 j, D.int IntKind.i64 v, D.int IntKind.i64 d]])) a b).1 = (1 : Int), (twoI (↑(List.length [D.agg [D.int IntKind.i64 i, D.int IntKind.i64 w, D.int IntKind.i64 c], D.agg [D.int IntKind.i64 j, D.int IntKind.i64 v, D.int IntKind.i64 d]])) a b).2 = (0 : Int), w < (9223372036854775808 : Int), v < (9223372036854775808 : Int), lessI i w c j v d = true]) (by kernel_rfl) ⟨(by first | assumption | decide | omega | (simp only [decide_eq_true_eq, decide_eq_false_iff_not, ne_eq] at *; omega)), (by first | assumption | decide | omega | (simp only [decide_eq_true_eq, decide_eq_false_iff_not, ne_eq] at *; omega)), (by first | assumption | decide | omega | (simp only [decide_eq_true_eq, decide_eq_false_iff_not, ne_eq] at *; omega)), (by first | assumption | decide | omega | (simp only [decide_eq_true_eq, decide_eq_false_iff_not, ne_eq] at *; omega)), (by first | assumption | decide | omega | (simp only [decide_eq_true_eq, decide_eq_false_iff_not, ne_eq] at *; omega)), trivial⟩
    · -- false
      have e : (D.tup [D.int IntKind.i64 j, D.bool true] : D) = (.tup [.int .i64 (pick2 i w c j v d a b), .bool true]) := by (unfold pick2; rw [hf]; simp [h29])
      rw [← e]
      exact path pickOkS (by kernel_rfl) rfl rfl Try.func31 (by kernel_rfl) calm31 [{ tag := (19 : Nat), a := AnsK.si (1 : Int) }, { tag := (20 : Nat), a := AnsK.si (0 : Int) }, { tag := (29 : Nat), a := AnsK.b false }] (ts := [(twoI (↑(List.length [D.agg [D.int IntKind.i64 i, D.int IntKind.i64 w, D.int IntKind.i64 c], D.agg [D.int IntKind.i64 j, D.int IntKind.i64 v, D.int IntKind.i64 d]])) a b).1 = (1 : Int), (twoI (↑(List.length [D.agg [D.int IntKind.i64 i, D.int IntKind.i64 w, D.int IntKind.i64 c], D.agg [D.int IntKind.i64 j, D.int IntKind.i64 v, D.int IntKind.i64 d]])) a b).2 = (0 : Int), w < (9223372036854775808 : Int), v < (9223372036854775808 : Int), lessI i w c j v d = false]) (by kernel_rfl) ⟨(by first | assumption | decide | omega | (simp only [decide_eq_true_eq, decide_eq_false_iff_not, ne_eq] at *; omega)), (by first | assumption | decide | omega | (simp only [decide_eq_true_eq, decide_eq_false_iff_not, ne_eq] at *; omega)), (by first | assumption | decide | omega | (simp only [decide_eq_true_eq, decide_eq_false_iff_not, ne_eq] at *; omega)), (by first | assumption | decide | omega | (simp only [decide_eq_true_eq, decide_eq_false_iff_not, ne_eq] at *; omega)), (by first | assumption | decide | omega | (simp only [decide_eq_true_eq, decide_eq_false_iff_not, ne_eq] at *; omega)), trivial⟩
    -- 2 paths

end Go.Proofs.Ytfjgngdomjjpgaa.Dv
