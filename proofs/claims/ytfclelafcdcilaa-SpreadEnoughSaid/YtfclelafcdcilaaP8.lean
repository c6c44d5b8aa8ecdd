/- The program's own order of keys: Less, Merge. -/
import Derived.Test.YtfclelafcdcilaaP1
set_option linter.unusedVariables false
set_option linter.unusedSimpArgs false
namespace Go.Proofs.Ytfclelafcdcilaa.Dv
open Go Go.Proofs
abbrev Ky := Int × Int
def kyD (k : Ky) : D := .agg [.int .i64 k.1, .int .i64 k.2]
def dKy : D → Ky
  | .agg [.int _ a, .int _ b] => (a, b)
  | _ => (0, 0)
theorem map_dKy (l : List Ky) : (l.map kyD).map dKy = l := by rw [List.map_map]; exact (List.map_congr_left fun x _ => rfl).trans (List.map_id l)
theorem pure_kyD (l : List Ky) : (l.map kyD).all D.pure = true := by rw [List.all_eq_true]; intro x hx; obtain ⟨n, _, rfl⟩ := List.mem_map.1 hx; rfl
theorem okEl_kyD (l : List Ky) : (l.map kyD).all (okEl 2) = true := by rw [List.all_eq_true]; intro x hx; obtain ⟨n, _, rfl⟩ := List.mem_map.1 hx; rfl
def codsK : TypeId → Option Codec
  | 4 => some ⟨Bool, blD⟩
  | 3 => some ⟨Int, iD⟩
  | 56 => some ⟨Ky, kyD⟩
  | _ => none
def kCfg (l : List Ctr) (h : List (Nat × Hn)) : WCfg := { spec := specOf l, cod := codsK, H := hints h }
def lessK (k l : Ky) : Bool := decide (k.1 < l.1) || (decide (k.1 = l.1) && decide (k.2 < l.2))
def lessS (vs : List D) : Option DOut := match vs with | [.agg [.int .i64 a, .int .i64 b], .agg [.int .i64 c, .int .i64 d]] => some ⟨True, .bool (lessK (a, b) (c, d))⟩ | _ => none
theorem lessN (a b c d : Int) : (decide (a < c) = true → D.bool true = D.bool (lessK (a, b) (c, d))) ∧ (decide (a < c) = false → (decide (a = c) = true → D.bool (decide (b < d)) = D.bool (lessK (a, b) (c, d))) ∧ (decide (a = c) = false → D.bool false = D.bool (lessK (a, b) (c, d)))) := by
  unfold lessK
  refine ⟨fun h => ?_, fun h => ⟨fun h2 => ?_, fun h2 => ?_⟩⟩
  all_goals simp_all
def lessC : Ctr := ⟨66, lessS, by
  intro vs o ho hp
  unfold lessS at ho
  split at ho
  · rename_i a b c d; injection ho with ho; subst ho
    exact dataFun0 (C := kCfg [] []) (ctrs_ok [] rfl rfl) rfl Try.func66 (by kernel_rfl) (by kernel_rfl) (by kernel_rfl) (by kernel_rfl) (by kernel_rfl) (lessN a b c d)
  · cases ho⟩
def mergeK : List Ky → List Ky → List Ky
  | [], m => m
  | x :: l, [] => x :: l
  | x :: l, y :: m => if lessK y x then y :: mergeK (x :: l) m else x :: mergeK l (y :: m)
termination_by l m => l.length + m.length
def mgL (f g : Bool) (n : Nat) : WLoop :=
  { St := List Ky × List Ky × List Ky
    O := List Ky
    T := fun s => [(0, .sl f (s.1.map kyD)), (1, .sl g (s.2.1.map kyD)), (5, .ms 0 0 s.2.2.length n true)]
    S := fun s => [some (.row .own 2 (s.2.2.map kyD ++ List.replicate (n - s.2.2.length) (kyD (0, 0))))]
    ok := fun s => s.2.2.length + s.1.length + s.2.1.length = n ∧ n ≤ 1000
    μ := fun s => s.1.length + s.2.1.length
    m := fun s => s.2.2 ++ mergeK s.1 s.2.1
    src := [(0, true)]
    outs := [{ α := List Ky, is := fun o a => o = a, ex := .exit 0, src := [(0, true)], T := fun _ => [(5, .ms 0 0 n n true)], S := fun a => [some (.row .own 2 (a.map kyD))] }] }
theorem mergeK_nil : ∀ m : List Ky, mergeK [] m = m
  | [] => by simp [mergeK]
  | _ :: _ => by simp [mergeK]
theorem mergeK_nil' : ∀ l : List Ky, mergeK l [] = l
  | [] => by simp [mergeK]
  | _ :: _ => by simp [mergeK]
theorem mg_row {n : Nat} {o : List Ky} (y : Ky) (h : o.length < n) : List.take (0 + o.length) (List.map kyD o ++ List.replicate (n - o.length) (kyD (0, 0))) ++ [kyD y] ++ List.drop (0 + o.length + 1) (List.map kyD o ++ List.replicate (n - o.length) (kyD (0, 0))) = List.map kyD (o ++ [y]) ++ List.replicate (n - (o ++ [y]).length) (kyD (0, 0)) := by
  obtain ⟨d, hd⟩ : ∃ d, n - o.length = d + 1 := ⟨n - o.length - 1, by omega⟩
  have hd' : n - (o ++ [y]).length = d := by rw [List.length_append, List.length_singleton]; omega
  rw [hd, hd', Nat.zero_add, List.take_left' (List.length_map ..), List.drop_append, List.length_map, List.drop_eq_nil_of_le (by simp), show o.length + 1 - o.length = 1 by omega, List.map_append]
  simp [List.replicate_succ]
theorem mg_pure (n : Nat) (o : List Ky) : (List.map kyD o ++ List.replicate (n - o.length) (kyD (0, 0))).all D.pure = true := by
  rw [List.all_append, pure_kyD, Bool.true_and, List.all_eq_true]
  intro x hx; rw [List.eq_of_mem_replicate hx]; rfl
theorem mg_cells (n : Nat) (h : n = 2) (l : List Ky) : (List.map kyD l).all (fun y => y.cells.length == n) = true := by
  rw [List.all_eq_true]; intro x hx; obtain ⟨y, _, rfl⟩ := List.mem_map.1 hx; rw [h]; rfl
theorem mg_drop (x : Ky) (l : List Ky) : List.drop 1 (List.take (List.map kyD (x :: l)).length (List.map kyD (x :: l))) = List.map kyD l := by rw [List.take_length]; rfl
theorem mg_and (f : Bool) (n : Nat) : (f && decide (n = n)) = f := by simp
noncomputable def mgC : List Ctr := [lessC]
theorem mgR (f g : Bool) (n : Nat) (s : (mgL f g n).St) (hs : (mgL f g n).ok s) : Tri Try.prog 0 57 (lp Try.f56 3) (tb ((mgL f g n).T s)) ((mgL f g n).S s) ((mgL f g n).q 0 s) := by
  obtain ⟨l, m, o⟩ := s
  obtain ⟨h1, h2⟩ := hs
  simp only at h1
  cases l with
  | nil =>
    cases m with
    | nil =>
      refine round0 (C := kCfg mgC [(24, .t), (20, .t)]) (ctrs_ok (mgC) rfl rfl) (by kernel_rfl) (by kernel_rfl) (q := true = true ∧ true = true ∧ ∃ (a : List Ky), o ++ [] = a ∧ D.ms (0 : Nat) (0 : Nat) n n true = D.ms (0 : Nat) (0 : Nat) o.length n true ∧ (some (Ob.row St.own (2 : Nat) (List.map kyD a)) = none ∨ some (Ob.row St.own (2 : Nat) (List.map kyD a)) = some (Ob.row St.own (2 : Nat) (List.map kyD o ++ List.replicate (n - o.length) (D.agg [D.int IntKind.i64 (0 : Int), D.int IntKind.i64 (0 : Int)]))) ∧ (List.map kyD o ++ List.replicate (n - o.length) (D.agg [D.int IntKind.i64 (0 : Int), D.int IntKind.i64 (0 : Int)])).all D.pure = true)) (by kernel_rfl) ?_
      have hol : o.length = n := by simpa using h1
      subst hol
      refine ⟨rfl, rfl, o, by simp, rfl, .inr ⟨?_, mg_pure _ o⟩⟩
      rw [Nat.sub_self]; simp
    | cons y m =>
      refine round0 (C := kCfg mgC [(24, .t), (20, .f), (33, .f), (37, .f), (29, .f), (17, .t)]) (ctrs_ok (mgC) rfl rfl) (by kernel_rfl) (by kernel_rfl) (q := true = true ∧ false = false ∧ false = false ∧ false = false ∧ ∃ (y_1 : Int × Int), (0 : Int) ≤ (0 : Int) ∧ some (D.agg [D.int IntKind.i64 y.fst, D.int IntKind.i64 y.snd]) = some (D.agg [D.int IntKind.i64 y_1.fst, D.int IntKind.i64 y_1.snd]) ∧ (0 : Nat) + n ≤ (List.map kyD o ++ List.replicate (n - o.length) (D.agg [D.int IntKind.i64 (0 : Int), D.int IntKind.i64 (0 : Int)])).length ∧ o.length ≤ n ∧ (o.length + (1 : Nat)) * (16 : Nat) ≤ (140737488355328 : Nat) ∧ o.length + (1 : Nat) ≤ n ∧ (0 : Int) ≤ (1 : Int) ∧ (1 : Nat) ≤ (List.map kyD (y :: m)).length ∧ (List.map kyD (y :: m)).length ≤ (List.map kyD (y :: m)).length ∧ ((List.drop (1 : Nat) (List.take (List.map kyD (y :: m)).length (List.map kyD (y :: m)))).all fun (y : D) => y.cells.length == (ti Try.prog (56 : Nat)).sz) = true ∧ ∃ (s' : List Ky × List Ky × List Ky), (s'.snd.snd.length + s'.fst.length + s'.snd.fst.length = n ∧ n ≤ (1000 : Nat)) ∧ (s'.fst.length + s'.snd.fst.length).succ ≤ (0 : Nat) + (y :: m).length ∧ s'.snd.snd ++ mergeK s'.fst s'.snd.fst = o ++ mergeK [] (y :: m) ∧ (D.sl f (List.map kyD s'.fst) = D.sl f [] ∧ D.sl g (List.map kyD s'.snd.fst) = D.sl (g && decide ((List.map kyD (y :: m)).length = (List.map kyD (y :: m)).length)) (List.drop (1 : Nat) (List.take (List.map kyD (y :: m)).length (List.map kyD (y :: m)))) ∧ D.ms (0 : Nat) (0 : Nat) s'.snd.snd.length n true = D.ms (0 : Nat) (0 : Nat) (o.length + (1 : Nat)) n true) ∧ (some (Ob.row St.own (2 : Nat) (List.map kyD s'.snd.snd ++ List.replicate (n - s'.snd.snd.length) (D.agg [D.int IntKind.i64 (0 : Int), D.int IntKind.i64 (0 : Int)]))) = none ∨ some (Ob.row St.own (2 : Nat) (List.map kyD s'.snd.snd ++ List.replicate (n - s'.snd.snd.length) (D.agg [D.int IntKind.i64 (0 : Int), D.int IntKind.i64 (0 : Int)]))) = some (Ob.row St.own (2 : Nat) (List.take ((0 : Nat) + o.length) (List.map kyD o ++ List.replicate (n - o.length) (D.agg [D.int IntKind.i64 (0 : Int), D.int IntKind.i64 (0 : Int)])) ++ [D.agg [D.int IntKind.i64 y_1.fst, D.int IntKind.i64 y_1.snd]] ++ List.drop ((0 : Nat) + o.length + (1 : Nat)) (List.map kyD o ++ List.replicate (n - o.length) (D.agg [D.int IntKind.i64 (0 : Int), D.int IntKind.i64 (0 : Int)])))) ∧ (List.take ((0 : Nat) + o.length) (List.map kyD o ++ List.replicate (n - o.length) (D.agg [D.int IntKind.i64 (0 : Int), D.int IntKind.i64 (0 : Int)])) ++ [D.agg [D.int IntKind.i64 y_1.fst, D.int IntKind.i64 y_1.snd]] ++ List.drop ((0 : Nat) + o.length + (1 : Nat)) (List.map kyD o ++ List.replicate (n - o.length) (D.agg [D.int IntKind.i64 (0 : Int), D.int IntKind.i64 (0 : Int)]))).all D.pure = true)) (by kernel_rfl) ?_
      have hs : (ti Try.prog 56).sz = 2 := by kernel_rfl
      have hrl : (List.map kyD o ++ List.replicate (n - o.length) (kyD (0, 0))).length = n := by rw [List.length_append, List.length_map, List.length_replicate]; omega
      have hlt : o.length < n := by simp at h1; omega
      have hol : (o ++ [y]).length = o.length + 1 := by simp
      rw [mg_drop, mg_and]
      repeat refine ⟨rfl, ?_⟩
      refine ⟨y, by omega, rfl, (by show 0 + n ≤ (List.map kyD o ++ List.replicate (n - o.length) (kyD (0, 0))).length; omega), by omega, by omega, by omega, by omega, by simp, by omega, mg_cells _ hs _, ([], m, o ++ [y]), ⟨by simp at h1 ⊢; omega, h2⟩, by simp, by rw [mergeK_nil, mergeK_nil]; simp, ⟨rfl, rfl, by rw [hol]⟩, .inr ⟨congrArg (fun r => some (Ob.row .own 2 r)) (mg_row y hlt).symm, (mg_row y hlt).symm ▸ mg_pure n (o ++ [y])⟩⟩
      all_goals repeat' apply And.intro
      all_goals rfl
  | cons x l =>
    cases m with
    | nil =>
      refine round0 (C := kCfg mgC [(24, .f), (20, .f), (33, .t), (29, .t), (53, .t)]) (ctrs_ok (mgC) rfl rfl) (by kernel_rfl) (by kernel_rfl) (q := false = false ∧ true = true ∧ ∃ (y : Int × Int), (0 : Int) ≤ (0 : Int) ∧ some (D.agg [D.int IntKind.i64 x.fst, D.int IntKind.i64 x.snd]) = some (D.agg [D.int IntKind.i64 y.fst, D.int IntKind.i64 y.snd]) ∧ (0 : Nat) + n ≤ (List.map kyD o ++ List.replicate (n - o.length) (D.agg [D.int IntKind.i64 (0 : Int), D.int IntKind.i64 (0 : Int)])).length ∧ o.length ≤ n ∧ (o.length + (1 : Nat)) * (16 : Nat) ≤ (140737488355328 : Nat) ∧ o.length + (1 : Nat) ≤ n ∧ (0 : Int) ≤ (1 : Int) ∧ (1 : Nat) ≤ (List.map kyD (x :: l)).length ∧ (List.map kyD (x :: l)).length ≤ (List.map kyD (x :: l)).length ∧ ((List.drop (1 : Nat) (List.take (List.map kyD (x :: l)).length (List.map kyD (x :: l)))).all fun (y : D) => y.cells.length == (ti Try.prog (56 : Nat)).sz) = true ∧ ∃ (s' : List Ky × List Ky × List Ky), (s'.snd.snd.length + s'.fst.length + s'.snd.fst.length = n ∧ n ≤ (1000 : Nat)) ∧ (s'.fst.length + s'.snd.fst.length).succ ≤ (x :: l).length + (0 : Nat) ∧ s'.snd.snd ++ mergeK s'.fst s'.snd.fst = o ++ mergeK (x :: l) [] ∧ (D.sl f (List.map kyD s'.fst) = D.sl (f && decide ((List.map kyD (x :: l)).length = (List.map kyD (x :: l)).length)) (List.drop (1 : Nat) (List.take (List.map kyD (x :: l)).length (List.map kyD (x :: l)))) ∧ D.sl g (List.map kyD s'.snd.fst) = D.sl g [] ∧ D.ms (0 : Nat) (0 : Nat) s'.snd.snd.length n true = D.ms (0 : Nat) (0 : Nat) (o.length + (1 : Nat)) n true) ∧ (some (Ob.row St.own (2 : Nat) (List.map kyD s'.snd.snd ++ List.replicate (n - s'.snd.snd.length) (D.agg [D.int IntKind.i64 (0 : Int), D.int IntKind.i64 (0 : Int)]))) = none ∨ some (Ob.row St.own (2 : Nat) (List.map kyD s'.snd.snd ++ List.replicate (n - s'.snd.snd.length) (D.agg [D.int IntKind.i64 (0 : Int), D.int IntKind.i64 (0 : Int)]))) = some (Ob.row St.own (2 : Nat) (List.take ((0 : Nat) + o.length) (List.map kyD o ++ List.replicate (n - o.length) (D.agg [D.int IntKind.i64 (0 : Int), D.int IntKind.i64 (0 : Int)])) ++ [D.agg [D.int IntKind.i64 y.fst, D.int IntKind.i64 y.snd]] ++ List.drop ((0 : Nat) + o.length + (1 : Nat)) (List.map kyD o ++ List.replicate (n - o.length) (D.agg [D.int IntKind.i64 (0 : Int), D.int IntKind.i64 (0 : Int)])))) ∧ (List.take ((0 : Nat) + o.length) (List.map kyD o ++ List.replicate (n - o.length) (D.agg [D.int IntKind.i64 (0 : Int), D.int IntKind.i64 (0 : Int)])) ++ [D.agg [D.int IntKind.i64 y.fst, D.int IntKind.i64 y.snd]] ++ List.drop ((0 : Nat) + o.length + (1 : Nat)) (List.map kyD o ++ List.replicate (n - o.length) (D.agg [D.int IntKind.i64 (0 : Int), D.int IntKind.i64 (0 : Int)]))).all D.pure = true)) (by kernel_rfl) ?_
      have hs : (ti Try.prog 56).sz = 2 := by kernel_rfl
      have hrl : (List.map kyD o ++ List.replicate (n - o.length) (kyD (0, 0))).length = n := by rw [List.length_append, List.length_map, List.length_replicate]; omega
      have hlt : o.length < n := by simp at h1; omega
      have hol : (o ++ [x]).length = o.length + 1 := by simp
      rw [mg_drop, mg_and]
      repeat refine ⟨rfl, ?_⟩
      refine ⟨x, by omega, rfl, (by show 0 + n ≤ (List.map kyD o ++ List.replicate (n - o.length) (kyD (0, 0))).length; omega), by omega, by omega, by omega, by omega, by simp, by omega, mg_cells _ hs _, (l, [], o ++ [x]), ⟨by simp at h1 ⊢; omega, h2⟩, by simp, by rw [mergeK_nil', mergeK_nil']; simp, ⟨rfl, rfl, by rw [hol]⟩, .inr ⟨congrArg (fun r => some (Ob.row .own 2 r)) (mg_row x hlt).symm, (mg_row x hlt).symm ▸ mg_pure n (o ++ [x])⟩⟩
      all_goals repeat' apply And.intro
      all_goals rfl
    | cons y m =>
      refine round0 (C := kCfg mgC [(24, .f), (20, .f), (33, .f), (37, .t), (53, .t), (17, .t)]) (ctrs_ok (mgC) rfl rfl) (by kernel_rfl) (by kernel_rfl) (q := false = false ∧ false = false ∧ decide ((0 : Int) < (↑(List.map kyD (x :: l)).length : Int)) = true ∧ ∃ (y_1 : Int × Int), (0 : Int) ≤ (0 : Int) ∧ some (D.agg [D.int IntKind.i64 y.fst, D.int IntKind.i64 y.snd]) = some (D.agg [D.int IntKind.i64 y_1.fst, D.int IntKind.i64 y_1.snd]) ∧ ∃ (y_2 : Int × Int), (0 : Int) ≤ (0 : Int) ∧ some (D.agg [D.int IntKind.i64 x.fst, D.int IntKind.i64 x.snd]) = some (D.agg [D.int IntKind.i64 y_2.fst, D.int IntKind.i64 y_2.snd]) ∧ True ∧ ((!lessK y_1 y_2) = true → ∃ (y_3 : Int × Int), (0 : Int) ≤ (0 : Int) ∧ some (D.agg [D.int IntKind.i64 x.fst, D.int IntKind.i64 x.snd]) = some (D.agg [D.int IntKind.i64 y_3.fst, D.int IntKind.i64 y_3.snd]) ∧ (0 : Nat) + n ≤ (List.map kyD o ++ List.replicate (n - o.length) (D.agg [D.int IntKind.i64 (0 : Int), D.int IntKind.i64 (0 : Int)])).length ∧ o.length ≤ n ∧ (o.length + (1 : Nat)) * (16 : Nat) ≤ (140737488355328 : Nat) ∧ o.length + (1 : Nat) ≤ n ∧ (0 : Int) ≤ (1 : Int) ∧ (1 : Nat) ≤ (List.map kyD (x :: l)).length ∧ (List.map kyD (x :: l)).length ≤ (List.map kyD (x :: l)).length ∧ ((List.drop (1 : Nat) (List.take (List.map kyD (x :: l)).length (List.map kyD (x :: l)))).all fun (y : D) => y.cells.length == (ti Try.prog (56 : Nat)).sz) = true ∧ ∃ (s' : List Ky × List Ky × List Ky), (s'.snd.snd.length + s'.fst.length + s'.snd.fst.length = n ∧ n ≤ (1000 : Nat)) ∧ (s'.fst.length + s'.snd.fst.length).succ ≤ (x :: l).length + (y :: m).length ∧ s'.snd.snd ++ mergeK s'.fst s'.snd.fst = o ++ mergeK (x :: l) (y :: m) ∧ (D.sl f (List.map kyD s'.fst) = D.sl (f && decide ((List.map kyD (x :: l)).length = (List.map kyD (x :: l)).length)) (List.drop (1 : Nat) (List.take (List.map kyD (x :: l)).length (List.map kyD (x :: l)))) ∧ D.sl g (List.map kyD s'.snd.fst) = D.sl g (List.map kyD (y :: m)) ∧ D.ms (0 : Nat) (0 : Nat) s'.snd.snd.length n true = D.ms (0 : Nat) (0 : Nat) (o.length + (1 : Nat)) n true) ∧ (some (Ob.row St.own (2 : Nat) (List.map kyD s'.snd.snd ++ List.replicate (n - s'.snd.snd.length) (D.agg [D.int IntKind.i64 (0 : Int), D.int IntKind.i64 (0 : Int)]))) = none ∨ some (Ob.row St.own (2 : Nat) (List.map kyD s'.snd.snd ++ List.replicate (n - s'.snd.snd.length) (D.agg [D.int IntKind.i64 (0 : Int), D.int IntKind.i64 (0 : Int)]))) = some (Ob.row St.own (2 : Nat) (List.take ((0 : Nat) + o.length) (List.map kyD o ++ List.replicate (n - o.length) (D.agg [D.int IntKind.i64 (0 : Int), D.int IntKind.i64 (0 : Int)])) ++ [D.agg [D.int IntKind.i64 y_3.fst, D.int IntKind.i64 y_3.snd]] ++ List.drop ((0 : Nat) + o.length + (1 : Nat)) (List.map kyD o ++ List.replicate (n - o.length) (D.agg [D.int IntKind.i64 (0 : Int), D.int IntKind.i64 (0 : Int)])))) ∧ (List.take ((0 : Nat) + o.length) (List.map kyD o ++ List.replicate (n - o.length) (D.agg [D.int IntKind.i64 (0 : Int), D.int IntKind.i64 (0 : Int)])) ++ [D.agg [D.int IntKind.i64 y_3.fst, D.int IntKind.i64 y_3.snd]] ++ List.drop ((0 : Nat) + o.length + (1 : Nat)) (List.map kyD o ++ List.replicate (n - o.length) (D.agg [D.int IntKind.i64 (0 : Int), D.int IntKind.i64 (0 : Int)]))).all D.pure = true)) ∧ ((!lessK y_1 y_2) = false → ∃ (y_3 : Int × Int), (0 : Int) ≤ (0 : Int) ∧ some (D.agg [D.int IntKind.i64 y.fst, D.int IntKind.i64 y.snd]) = some (D.agg [D.int IntKind.i64 y_3.fst, D.int IntKind.i64 y_3.snd]) ∧ (0 : Nat) + n ≤ (List.map kyD o ++ List.replicate (n - o.length) (D.agg [D.int IntKind.i64 (0 : Int), D.int IntKind.i64 (0 : Int)])).length ∧ o.length ≤ n ∧ (o.length + (1 : Nat)) * (16 : Nat) ≤ (140737488355328 : Nat) ∧ o.length + (1 : Nat) ≤ n ∧ (0 : Int) ≤ (1 : Int) ∧ (1 : Nat) ≤ (List.map kyD (y :: m)).length ∧ (List.map kyD (y :: m)).length ≤ (List.map kyD (y :: m)).length ∧ ((List.drop (1 : Nat) (List.take (List.map kyD (y :: m)).length (List.map kyD (y :: m)))).all fun (y : D) => y.cells.length == (ti Try.prog (56 : Nat)).sz) = true ∧ ∃ (s' : List Ky × List Ky × List Ky), (s'.snd.snd.length + s'.fst.length + s'.snd.fst.length = n ∧ n ≤ (1000 : Nat)) ∧ (s'.fst.length + s'.snd.fst.length).succ ≤ (x :: l).length + (y :: m).length ∧ s'.snd.snd ++ mergeK s'.fst s'.snd.fst = o ++ mergeK (x :: l) (y :: m) ∧ (D.sl f (List.map kyD s'.fst) = D.sl f (List.map kyD (x :: l)) ∧ D.sl g (List.map kyD s'.snd.fst) = D.sl (g && decide ((List.map kyD (y :: m)).length = (List.map kyD (y :: m)).length)) (List.drop (1 : Nat) (List.take (List.map kyD (y :: m)).length (List.map kyD (y :: m)))) ∧ D.ms (0 : Nat) (0 : Nat) s'.snd.snd.length n true = D.ms (0 : Nat) (0 : Nat) (o.length + (1 : Nat)) n true) ∧ (some (Ob.row St.own (2 : Nat) (List.map kyD s'.snd.snd ++ List.replicate (n - s'.snd.snd.length) (D.agg [D.int IntKind.i64 (0 : Int), D.int IntKind.i64 (0 : Int)]))) = none ∨ some (Ob.row St.own (2 : Nat) (List.map kyD s'.snd.snd ++ List.replicate (n - s'.snd.snd.length) (D.agg [D.int IntKind.i64 (0 : Int), D.int IntKind.i64 (0 : Int)]))) = some (Ob.row St.own (2 : Nat) (List.take ((0 : Nat) + o.length) (List.map kyD o ++ List.replicate (n - o.length) (D.agg [D.int IntKind.i64 (0 : Int), D.int IntKind.i64 (0 : Int)])) ++ [D.agg [D.int IntKind.i64 y_3.fst, D.int IntKind.i64 y_3.snd]] ++ List.drop ((0 : Nat) + o.length + (1 : Nat)) (List.map kyD o ++ List.replicate (n - o.length) (D.agg [D.int IntKind.i64 (0 : Int), D.int IntKind.i64 (0 : Int)])))) ∧ (List.take ((0 : Nat) + o.length) (List.map kyD o ++ List.replicate (n - o.length) (D.agg [D.int IntKind.i64 (0 : Int), D.int IntKind.i64 (0 : Int)])) ++ [D.agg [D.int IntKind.i64 y_3.fst, D.int IntKind.i64 y_3.snd]] ++ List.drop ((0 : Nat) + o.length + (1 : Nat)) (List.map kyD o ++ List.replicate (n - o.length) (D.agg [D.int IntKind.i64 (0 : Int), D.int IntKind.i64 (0 : Int)]))).all D.pure = true))) (by kernel_rfl) ?_
      have hs : (ti Try.prog 56).sz = 2 := by kernel_rfl
      have hrl : (List.map kyD o ++ List.replicate (n - o.length) (kyD (0, 0))).length = n := by rw [List.length_append, List.length_map, List.length_replicate]; omega
      have hlt : o.length < n := by simp at h1; omega
      have hol : ∀ z : Ky, (o ++ [z]).length = o.length + 1 := fun z => by simp
      have hm1 : lessK y x = false → mergeK (x :: l) (y :: m) = x :: mergeK l (y :: m) := fun h => by rw [mergeK, if_neg (by simp [h])]
      have hm2 : lessK y x = true → mergeK (x :: l) (y :: m) = y :: mergeK (x :: l) m := fun h => by rw [mergeK, if_pos h]
      rw [mg_drop, mg_drop, mg_and, mg_and]
      repeat refine ⟨rfl, ?_⟩
      refine ⟨decide_eq_true (by simp), y, by omega, rfl, x, by omega, rfl, trivial, fun hb => ?_, fun hb => ?_⟩
      · have hb : lessK y x = false := by simpa using hb
        exact ⟨x, by omega, rfl, (by show 0 + n ≤ (List.map kyD o ++ List.replicate (n - o.length) (kyD (0, 0))).length; omega), by omega, by omega, by omega, by omega, by simp, by omega, mg_cells _ hs _, (l, y :: m, o ++ [x]), ⟨by simp at h1 ⊢; omega, h2⟩, by simp; omega, by rw [hm1 hb]; simp, ⟨rfl, rfl, by rw [hol x]⟩, .inr ⟨congrArg (fun r => some (Ob.row .own 2 r)) (mg_row x hlt).symm, (mg_row x hlt).symm ▸ mg_pure n (o ++ [x])⟩⟩
      · have hb : lessK y x = true := by simpa using hb
        exact ⟨y, by omega, rfl, (by show 0 + n ≤ (List.map kyD o ++ List.replicate (n - o.length) (kyD (0, 0))).length; omega), by omega, by omega, by omega, by omega, by simp, by omega, mg_cells _ hs _, (x :: l, m, o ++ [y]), ⟨by simp at h1 ⊢; omega, h2⟩, by simp; omega, by rw [hm2 hb]; simp, ⟨rfl, rfl, by rw [hol y]⟩, .inr ⟨congrArg (fun r => some (Ob.row .own 2 r)) (mg_row y hlt).symm, (mg_row y hlt).symm ▸ mg_pure n (o ++ [y])⟩⟩
end Go.Proofs.Ytfclelafcdcilaa.Dv
