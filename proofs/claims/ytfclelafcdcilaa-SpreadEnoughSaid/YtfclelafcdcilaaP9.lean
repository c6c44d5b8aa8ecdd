/- Rows of keys in order: Merge, Sort, Rising; the plain law of sorting. -/
import Derived.Test.YtfclelafcdcilaaP8
set_option linter.unusedVariables false
set_option linter.unusedSimpArgs false
namespace Go.Proofs.Ytfclelafcdcilaa.Dv
open Go Go.Proofs
/-! ### sorted rows -/
def leK (a b : Ky) : Prop := lessK b a = false
theorem lessK_iff {a b : Ky} : lessK a b = true ↔ a.1 < b.1 ∨ (a.1 = b.1 ∧ a.2 < b.2) := by
  unfold lessK; simp
theorem leK_iff {a b : Ky} : leK a b ↔ a.1 < b.1 ∨ (a.1 = b.1 ∧ a.2 ≤ b.2) := by
  unfold leK
  rw [← Bool.not_eq_true, lessK_iff]
  omega
theorem leK_trans {a b c : Ky} (h : leK a b) (g : leK b c) : leK a c := by rw [leK_iff] at *; omega
theorem leK_anti {a b : Ky} (h : leK a b) (g : leK b a) : a = b := by
  rw [leK_iff] at *
  exact Prod.ext (by omega) (by omega)
theorem leK_of_less {a b : Ky} (h : lessK a b = true) : leK a b := by rw [lessK_iff] at h; rw [leK_iff]; omega
abbrev SrtK (l : List Ky) : Prop := l.Pairwise leK
theorem mergeK_perm : ∀ l m : List Ky, (mergeK l m).Perm (l ++ m)
  | [], m => by rw [mergeK_nil]; exact .refl _
  | x :: l, [] => by rw [mergeK_nil', List.append_nil]
  | x :: l, y :: m => by
    rw [mergeK]
    split
    · exact ((mergeK_perm (x :: l) m).cons y).trans List.perm_middle.symm
    · exact (mergeK_perm l (y :: m)).cons x
termination_by l m => l.length + m.length
theorem mergeK_srt : ∀ l m : List Ky, SrtK l → SrtK m → SrtK (mergeK l m)
  | [], m, _, h => by rw [mergeK_nil]; exact h
  | x :: l, [], h, _ => by rw [mergeK_nil']; exact h
  | x :: l, y :: m, h, g => by
    have h' := List.pairwise_cons.1 h
    have g' := List.pairwise_cons.1 g
    rw [mergeK]
    split
    · rename_i hlt
      refine List.pairwise_cons.2 ⟨fun z hz => ?_, mergeK_srt (x :: l) m h g'.2⟩
      rcases List.mem_append.1 ((mergeK_perm (x :: l) m).mem_iff.1 hz) with hz | hz
      · rcases List.mem_cons.1 hz with rfl | hz
        · exact leK_of_less hlt
        · exact leK_trans (leK_of_less hlt) (h'.1 z hz)
      · exact g'.1 z hz
    · rename_i hlt
      have hle : leK x y := by unfold leK; simpa using hlt
      refine List.pairwise_cons.2 ⟨fun z hz => ?_, mergeK_srt l (y :: m) h'.2 g⟩
      rcases List.mem_append.1 ((mergeK_perm l (y :: m)).mem_iff.1 hz) with hz | hz
      · exact h'.1 z hz
      · rcases List.mem_cons.1 hz with rfl | hz
        · exact hle
        · exact leK_trans hle (g'.1 z hz)
termination_by l m => l.length + m.length
def sortK (l : List Ky) : List Ky := if l.length < 2 then l else mergeK (sortK (l.take (l.length / 2))) (sortK (l.drop (l.length / 2)))
termination_by l.length
decreasing_by
  · rw [List.length_take]; omega
  · rw [List.length_drop]; omega
theorem sortK_small {l : List Ky} (h : l.length < 2) : sortK l = l := by rw [sortK, if_pos h]
theorem sortK_big {l : List Ky} (h : ¬ l.length < 2) : sortK l = mergeK (sortK (l.take (l.length / 2))) (sortK (l.drop (l.length / 2))) := by
  conv => lhs; rw [sortK, if_neg h]
theorem sortK_perm (l : List Ky) : (sortK l).Perm l := by
  rw [sortK]
  split
  · exact .refl _
  · refine (mergeK_perm _ _).trans (((sortK_perm _).append (sortK_perm _)).trans ?_)
    rw [List.take_append_drop]
termination_by l.length
decreasing_by
  · rw [List.length_take]; omega
  · rw [List.length_drop]; omega
theorem sortK_srt (l : List Ky) : SrtK (sortK l) := by
  rw [sortK]
  split
  · rename_i h
    match l, h with
    | [], _ => exact .nil
    | [x], _ => exact List.pairwise_singleton ..
    | x :: y :: l, h => exact absurd h (by simp)
  · exact mergeK_srt _ _ (sortK_srt _) (sortK_srt _)
termination_by l.length
decreasing_by
  · rw [List.length_take]; omega
  · rw [List.length_drop]; omega
theorem sortK_len (l : List Ky) : (sortK l).length = l.length := (sortK_perm l).length_eq
theorem srtK_eq {l m : List Ky} (h : SrtK l) (g : SrtK m) (hp : l.Perm m) : l = m := hp.eq_of_pairwise (fun a b _ _ h g => leK_anti h g) h g
/-- Put where it belongs: behind all that are not greater. -/
def insK (k : Ky) : List Ky → List Ky
  | [] => [k]
  | x :: l => if lessK k x then k :: x :: l else x :: insK k l
theorem insK_perm (k : Ky) : ∀ l, (insK k l).Perm (k :: l)
  | [] => .refl _
  | x :: l => by
    rw [insK]
    split
    · exact .refl _
    · exact ((insK_perm k l).cons x).trans (.swap ..)
theorem insK_srt (k : Ky) : ∀ l, SrtK l → SrtK (insK k l)
  | [], _ => List.pairwise_singleton ..
  | x :: l, h => by
    have h' := List.pairwise_cons.1 h
    rw [insK]
    split
    · rename_i hlt
      refine List.pairwise_cons.2 ⟨fun z hz => ?_, h⟩
      rcases List.mem_cons.1 hz with rfl | hz
      · exact leK_of_less hlt
      · exact leK_trans (leK_of_less hlt) (h'.1 z hz)
    · rename_i hlt
      refine List.pairwise_cons.2 ⟨fun z hz => ?_, insK_srt k l h'.2⟩
      rcases List.mem_cons.1 ((insK_perm k l).mem_iff.1 hz) with rfl | hz
      · unfold leK; simpa using hlt
      · exact h'.1 z hz
def isortK (l : List Ky) : List Ky := l.foldl (fun o k => insK k o) []
theorem isortK_snoc (l : List Ky) (k : Ky) : isortK (l ++ [k]) = insK k (isortK l) := by unfold isortK; simp
theorem foldK_perm : ∀ (l o : List Ky), (l.foldl (fun o k => insK k o) o).Perm (o ++ l)
  | [], o => by simp
  | k :: l, o => by
    rw [List.foldl_cons]
    refine (foldK_perm l (insK k o)).trans ((((insK_perm k o).append (.refl l)).trans ?_))
    exact List.perm_middle.symm
theorem foldK_srt : ∀ (l o : List Ky), SrtK o → SrtK (l.foldl (fun o k => insK k o) o)
  | [], o, h => h
  | k :: l, o, h => foldK_srt l _ (insK_srt k o h)
theorem isortK_perm (l : List Ky) : (isortK l).Perm l := by
  exact (foldK_perm l []).trans (by rw [List.nil_append])
theorem isortK_srt (l : List Ky) : SrtK (isortK l) := foldK_srt l [] .nil
theorem isortK_eq (l : List Ky) : isortK l = sortK l := srtK_eq (isortK_srt l) (sortK_srt l) ((isortK_perm l).trans (sortK_perm l).symm)
/-- Each ahead of the next. -/
def risK : List Ky → Bool
  | [] => true
  | [_] => true
  | x :: y :: l => lessK x y && risK (y :: l)
theorem risK_iff : ∀ {l : List Ky}, SrtK l → (risK l = true ↔ l.Nodup)
  | [], _ => by simp [risK]
  | [x], _ => by simp [risK]
  | x :: y :: l, h => by
    have h' := List.pairwise_cons.1 h
    rw [risK, Bool.and_eq_true, risK_iff h'.2, List.nodup_cons (a := x)]
    have hxy := h'.1 y (List.mem_cons_self ..)
    have hy := (List.pairwise_cons.1 h'.2).1
    constructor
    · rintro ⟨h1, h2⟩
      refine ⟨fun hx => ?_, h2⟩
      have : leK y x := by
        rcases List.mem_cons.1 hx with rfl | hx
        · exact hxy
        · exact hy x hx
      unfold leK at this
      rw [h1] at this; cases this
    · rintro ⟨h1, h2⟩
      refine ⟨?_, h2⟩
      cases hl : lessK x y with
      | true => rfl
      | false => exact absurd (leK_anti hxy hl) (fun e => h1 (e ▸ List.mem_cons_self ..))

/-! ### order.Merge -/
noncomputable def mgCfg (f g : Bool) (n : Nat) : WCfg := { kCfg mgC [] with loops := fun k => match k with | 3 => some ((mgL f g n).row [(0, true)]) | _ => none }
theorem mgN (f g : Bool) (l m : List Ky) (h : l.length + m.length ≤ 1000) : inK IntKind.i64 ((↑(List.map kyD l).length : Int) + (↑(List.map kyD m).length : Int)) ∧ (0 : Int) ≤ (0 : Int) ∧ (0 : Int) ≤ (↑(List.map kyD l).length : Int) + (↑(List.map kyD m).length : Int) ∧ ((↑(List.map kyD l).length : Int) + (↑(List.map kyD m).length : Int)) * (16 : Int) ≤ (140737488355328 : Int) ∧ (↑(List.map kyD l).length : Int) + (↑(List.map kyD m).length : Int) ≤ (140737488355328 : Int) ∧ ∃ (b : List Ky × List Ky × List Ky), (b.snd.snd.length + b.fst.length + b.snd.fst.length = l.length + m.length ∧ l.length + m.length ≤ (1000 : Nat)) ∧ ((D.sl f (List.map kyD b.fst) = D.sl f (List.map kyD l) ∧ D.sl g (List.map kyD b.snd.fst) = D.sl g (List.map kyD m) ∧ D.ms (0 : Nat) (0 : Nat) b.snd.snd.length (l.length + m.length) true = D.ms (0 : Nat) (0 : Nat) (0 : Nat) ((↑(List.map kyD l).length : Int) + (↑(List.map kyD m).length : Int)).toNat true) ∧ (some (Ob.row St.own (2 : Nat) (List.map kyD b.snd.snd ++ List.replicate (l.length + m.length - b.snd.snd.length) (D.agg [D.int IntKind.i64 (0 : Int), D.int IntKind.i64 (0 : Int)]))) = none ∨ some (Ob.row St.own (2 : Nat) (List.map kyD b.snd.snd ++ List.replicate (l.length + m.length - b.snd.snd.length) (D.agg [D.int IntKind.i64 (0 : Int), D.int IntKind.i64 (0 : Int)]))) = some (Ob.row St.own (2 : Nat) (List.replicate ((↑(List.map kyD l).length : Int) + (↑(List.map kyD m).length : Int)).toNat (D.agg [D.int IntKind.i64 (0 : Int), D.int IntKind.i64 (0 : Int)]))) ∧ (List.replicate ((↑(List.map kyD l).length : Int) + (↑(List.map kyD m).length : Int)).toNat (D.agg [D.int IntKind.i64 (0 : Int), D.int IntKind.i64 (0 : Int)])).all D.pure = true)) ∧ ∀ (a : List Ky), b.snd.snd ++ mergeK b.fst b.snd.fst = a → (0 : Nat) + (l.length + m.length) ≤ (List.map kyD a).length ∧ (List.take (l.length + m.length) (List.drop (0 : Nat) (List.map kyD a))).all D.pure = true ∧ D.sl (true && decide (l.length + m.length = l.length + m.length)) (List.take (l.length + m.length) (List.drop (0 : Nat) (List.map kyD a))) = D.sl true (List.map kyD (mergeK l m)) := by
  have e : ((List.map kyD l).length : Int) + ((List.map kyD m).length : Int) = ((l.length + m.length : Nat) : Int) := by rw [List.length_map, List.length_map]; omega
  rw [e, Int.toNat_natCast]
  have hr : (List.replicate (l.length + m.length) (kyD (0, 0))).all D.pure = true := by rw [List.all_eq_true]; intro x hx; rw [List.eq_of_mem_replicate hx]; rfl
  refine ⟨ink (by omega), by omega, by omega, by omega, by omega, (l, m, []), ⟨by simp, h⟩, ⟨⟨rfl, rfl, rfl⟩, .inr ⟨rfl, hr⟩⟩, fun a ha => ?_⟩
  have ha : mergeK l m = a := ha
  subst ha
  have hl : (mergeK l m).length = l.length + m.length := by rw [(mergeK_perm l m).length_eq, List.length_append]
  have ht : List.take (l.length + m.length) (List.drop 0 (List.map kyD (mergeK l m))) = List.map kyD (mergeK l m) := by
    rw [List.drop_zero]; exact List.take_of_length_le (by rw [List.length_map]; omega)
  rw [ht]
  exact ⟨by rw [List.length_map]; omega, pure_kyD _, by simp⟩
def mgS (vs : List D) : Option DOut := match vs with | [.sl f xs, .sl g ys] => some ⟨∃ l m : List Ky, xs = l.map kyD ∧ ys = m.map kyD ∧ l.length + m.length ≤ 1000, .sl true ((mergeK (xs.map dKy) (ys.map dKy)).map kyD)⟩ | _ => none
def mgCtr : Ctr := ⟨56, mgS, by
  intro vs o ho hp
  unfold mgS at ho
  split at ho
  · rename_i f xs g ys
    injection ho with ho; subst ho
    obtain ⟨l, m, rfl, rfl, h⟩ := hp
    simp only [map_dKy]
    refine dataFunL (C := mgCfg f g (l.length + m.length)) (ctrs_ok mgC rfl rfl) rfl Try.func56 (by kernel_rfl) (l := [lp Try.f56 3]) (by kernel_rfl) ?_ (by kernel_rfl) (by kernel_rfl) (by kernel_rfl) (mgN f g l m h)
    intro x hx
    rw [List.mem_singleton.1 hx]
    exact (mgL f g (l.length + m.length)).fits 3 [(0, true)] (by kernel_rfl) rfl (mgR f g (l.length + m.length))
  · cases ho⟩
/-! ### order.Sort -/
def srS (N : Nat) (vs : List D) : Option DOut := match vs with | [.sl f xs] => some ⟨∃ l : List Ky, xs = l.map kyD ∧ l.length < N ∧ N ≤ 1000, .sl (decide (xs.length ≠ 1)) ((sortK (xs.map dKy)).map kyD)⟩ | _ => none
def SrOk (N : Nat) : Prop := ∀ vs o, srS N vs = some o → o.pre → DataFun Try.prog 33 vs o.r
def srK (N : Nat) (h : SrOk N) : Ctr := ⟨33, srS N, h⟩
theorem srN0 (f : Bool) : true = true ∧ true = true ∧ (nilT D = [] → D.sl true [] = D.sl true []) ∧ ((nilT D = [] → False) → true = true ∧ true = true ∧ (0 : Nat) ≤ (140737488355328 : Nat) ∧ (0 : Nat) ≤ (0 : Nat) ∧ true = true ∧ D.sl false [] = D.sl true []) := by
  exact ⟨rfl, rfl, fun _ => rfl, fun h => absurd rfl h⟩
theorem srN1 (f : Bool) (x : Ky) : true = true ∧ true = true ∧ ([D.agg [D.int IntKind.i64 x.fst, D.int IntKind.i64 x.snd]] = [] → D.sl true [] = D.sl false [D.agg [D.int IntKind.i64 x.fst, D.int IntKind.i64 x.snd]]) ∧ (([D.agg [D.int IntKind.i64 x.fst, D.int IntKind.i64 x.snd]] = [] → False) → true = true ∧ true = true ∧ (16 : Nat) ≤ (140737488355328 : Nat) ∧ (1 : Nat) ≤ (1 : Nat) ∧ true = true ∧ D.sl false [D.agg [D.int IntKind.i64 x.fst, D.int IntKind.i64 x.snd]] = D.sl false [D.agg [D.int IntKind.i64 x.fst, D.int IntKind.i64 x.snd]]) := by
  exact ⟨rfl, rfl, (fun h => by cases h), fun _ => ⟨rfl, rfl, by omega, by omega, rfl, rfl⟩⟩
theorem srN2 (N : Nat) (hN : SrOk N) (f : Bool) (l : List Ky) (h : 2 ≤ l.length) (h2 : l.length < N + 1) (h3 : N ≤ 1000) : decide ((↑(List.map kyD l).length : Int) < (2 : Int)) = false ∧ (0 : Int) ≤ (↑(List.map kyD l).length : Int) ∧ (0 : Int) < (2 : Int) ∧ inK IntKind.i64 (↑(List.map kyD l).length : Int) ∧ (0 : Int) ≤ (↑(List.map kyD l).length : Int) / (2 : Int) ∧ (0 : Nat) ≤ ((↑(List.map kyD l).length : Int) / (2 : Int)).toNat ∧ ((↑(List.map kyD l).length : Int) / (2 : Int)).toNat ≤ (List.map kyD l).length ∧ ((List.drop (0 : Nat) (List.take ((↑(List.map kyD l).length : Int) / (2 : Int)).toNat (List.map kyD l))).all fun (y : D) => y.cells.length == (ti Try.prog (56 : Nat)).sz) = true ∧ (∃ (l_1 : List Ky), List.drop (0 : Nat) (List.take ((↑(List.map kyD l).length : Int) / (2 : Int)).toNat (List.map kyD l)) = List.map kyD l_1 ∧ l_1.length.succ ≤ N ∧ N ≤ (1000 : Nat)) ∧ (0 : Int) ≤ (↑(List.map kyD l).length : Int) / (2 : Int) ∧ ((↑(List.map kyD l).length : Int) / (2 : Int)).toNat ≤ (List.map kyD l).length ∧ (List.map kyD l).length ≤ (List.map kyD l).length ∧ ((List.drop ((↑(List.map kyD l).length : Int) / (2 : Int)).toNat (List.take (List.map kyD l).length (List.map kyD l))).all fun (y : D) => y.cells.length == (ti Try.prog (56 : Nat)).sz) = true ∧ (∃ (l_1 : List Ky), List.drop ((↑(List.map kyD l).length : Int) / (2 : Int)).toNat (List.take (List.map kyD l).length (List.map kyD l)) = List.map kyD l_1 ∧ l_1.length.succ ≤ N ∧ N ≤ (1000 : Nat)) ∧ (∃ (l_1 : List Ky), ∃ (m : List Ky), List.map kyD (sortK (List.map dKy (List.drop (0 : Nat) (List.take ((↑(List.map kyD l).length : Int) / (2 : Int)).toNat (List.map kyD l))))) = List.map kyD l_1 ∧ List.map kyD (sortK (List.map dKy (List.drop ((↑(List.map kyD l).length : Int) / (2 : Int)).toNat (List.take (List.map kyD l).length (List.map kyD l))))) = List.map kyD m ∧ l_1.length + m.length ≤ (1000 : Nat)) ∧ D.sl true (List.map kyD (mergeK (List.map dKy (List.map kyD (sortK (List.map dKy (List.drop (0 : Nat) (List.take ((↑(List.map kyD l).length : Int) / (2 : Int)).toNat (List.map kyD l))))))) (List.map dKy (List.map kyD (sortK (List.map dKy (List.drop ((↑(List.map kyD l).length : Int) / (2 : Int)).toNat (List.take (List.map kyD l).length (List.map kyD l))))))))) = D.sl true (List.map kyD (sortK l)) := by
  have hL : (List.map kyD l).length = l.length := List.length_map ..
  have hs : (ti Try.prog 56).sz = 2 := by kernel_rfl
  have e1 : List.drop 0 (List.take (((List.map kyD l).length : Int) / 2).toNat (List.map kyD l)) = List.map kyD (l.take (l.length / 2)) := by
    rw [hL, List.drop_zero, List.map_take]; congr 1
  have e2 : List.drop (((List.map kyD l).length : Int) / 2).toNat (List.take (List.map kyD l).length (List.map kyD l)) = List.map kyD (l.drop (l.length / 2)) := by
    rw [List.take_length, List.map_drop, hL]; congr 1
  rw [e1, e2, map_dKy, map_dKy, map_dKy, map_dKy, ← sortK_big (by omega)]
  have hc : ∀ m : List Ky, (List.map kyD m).all (fun y => y.cells.length == (ti Try.prog 56).sz) = true := fun m => mg_cells _ hs m
  exact ⟨decide_eq_false (by omega), by omega, by omega, ink (by omega), by omega, by omega, by omega, hc _, ⟨_, rfl, by rw [List.length_take]; omega, h3⟩, by omega, by omega, by omega, hc _, ⟨_, rfl, by rw [List.length_drop]; omega, h3⟩, ⟨_, _, rfl, rfl, by rw [sortK_len, sortK_len, List.length_take, List.length_drop]; omega⟩, rfl⟩
theorem srOk : ∀ N, SrOk N
  | 0 => by
    intro vs o ho hp
    unfold srS at ho
    split at ho
    · injection ho with ho; subst ho
      obtain ⟨l, rfl, h, _⟩ := hp
      exact absurd h (by omega)
    · cases ho
  | N + 1 => by
    intro vs o ho hp
    unfold srS at ho
    split at ho
    · rename_i f xs
      injection ho with ho; subst ho
      obtain ⟨l, rfl, h, h3⟩ := hp
      simp only [map_dKy]
      by_cases h2 : 2 ≤ l.length
      · rw [show decide ((List.map kyD l).length ≠ 1) = true from decide_eq_true (by rw [List.length_map]; omega)]
        exact dataFun0 (C := kCfg [srK N (srOk N), mgCtr] [(6, .f)]) (ctrs_ok [srK N (srOk N), mgCtr] rfl rfl) rfl Try.func33 (by kernel_rfl) (by kernel_rfl) (by kernel_rfl) rfl (by kernel_rfl) (srN2 N (srOk N) f l h2 h (by omega))
      · rw [sortK_small (by omega)]
        match l, h2 with
        | [], _ => exact dataFun0 (C := kCfg [] [(6, .t)]) (ctrs_ok [] rfl rfl) rfl Try.func33 (by kernel_rfl) (by kernel_rfl) (by kernel_rfl) rfl (by kernel_rfl) (srN0 f)
        | [x], _ => exact dataFun0 (C := kCfg [] [(6, .t)]) (ctrs_ok [] rfl rfl) rfl Try.func33 (by kernel_rfl) (by kernel_rfl) (by kernel_rfl) rfl (by kernel_rfl) (srN1 f x)
        | x :: y :: l, h2 => exact absurd (by simp) h2
    · cases ho
def srC : Ctr := srK 1000 (srOk 1000)
/-! ### order.Rising -/
def riL (f : Bool) (all : List Ky) : WLoop :=
  { St := List Ky × List Ky
    O := Bool
    T := fun s => [(0, .sl f (all.map kyD)), (3, .int .i64 ((s.1.length : Int) + 1))]
    ok := fun s => s.1 ++ s.2 = all ∧ all.length ≤ 1000 ∧ (s.2 = [] → s.1 = [])
    μ := fun s => s.2.length
    m := fun s => risK s.2
    outs := [{ α := Unit, is := fun o _ => o = true, ex := .exit 0, T := fun _ => [] }, { α := Unit, is := fun o _ => o = false, ex := .ret, T := fun _ => [(2, .bool false)] }] }
theorem riR (f : Bool) (all : List Ky) (s : (riL f all).St) (hs : (riL f all).ok s) : Tri Try.prog 0 21 (lp Try.f53 2) (tb ((riL f all).T s)) ((riL f all).S s) ((riL f all).q 0 s) := by
  obtain ⟨a, r⟩ := s
  obtain ⟨h1, h2, h3⟩ := hs
  simp only at h1 h3
  have hL : (List.map kyD all).length = all.length := List.length_map ..
  match r, h1, h3 with
  | [], h1, h3 =>
    refine round0 (C := kCfg mgC [(7, .f)]) (ctrs_ok (mgC) rfl rfl) (by kernel_rfl) (by kernel_rfl) (q := decide ((↑a.length : Int) + (1 : Int) < (↑(List.map kyD all).length : Int)) = false ∧ ∃ (a : Unit), true = true ∧ True) (by kernel_rfl) ?_
    have ha := h3 rfl
    subst ha
    subst h1
    exact ⟨rfl, (), rfl, trivial⟩
  | [x], h1, _ =>
    refine round0 (C := kCfg mgC [(7, .f)]) (ctrs_ok (mgC) rfl rfl) (by kernel_rfl) (by kernel_rfl) (q := decide ((↑a.length : Int) + (1 : Int) < (↑(List.map kyD all).length : Int)) = false ∧ ∃ (a : Unit), true = true ∧ True) (by kernel_rfl) ?_
    have hl : all.length = a.length + 1 := by rw [← h1]; simp
    exact ⟨decide_eq_false (by omega), (), rfl, trivial⟩
  | x :: y :: r, h1, _ =>
    refine round0 (C := kCfg mgC [(7, .t)]) (ctrs_ok (mgC) rfl rfl) (by kernel_rfl) (by kernel_rfl) (q := decide ((↑a.length : Int) + (1 : Int) < (↑(List.map kyD all).length : Int)) = true ∧ inK IntKind.i64 ((↑a.length : Int) + (1 : Int) - (1 : Int)) ∧ ∃ (y_1 : Int × Int), (0 : Int) ≤ (↑a.length : Int) + (1 : Int) - (1 : Int) ∧ (List.map kyD all)[((↑a.length : Int) + (1 : Int) - (1 : Int)).toNat]? = some (D.agg [D.int IntKind.i64 y_1.fst, D.int IntKind.i64 y_1.snd]) ∧ ∃ (y_2 : Int × Int), (0 : Int) ≤ (↑a.length : Int) + (1 : Int) ∧ (List.map kyD all)[((↑a.length : Int) + (1 : Int)).toNat]? = some (D.agg [D.int IntKind.i64 y_2.fst, D.int IntKind.i64 y_2.snd]) ∧ True ∧ ((!lessK y_1 y_2) = true → ∃ (a : Unit), risK (x :: y :: r) = false ∧ D.bool false = D.bool false) ∧ ((!lessK y_1 y_2) = false → inK IntKind.i64 ((↑a.length : Int) + (1 : Int) + (1 : Int)) ∧ ∃ (s' : List Ky × List Ky), (s'.fst ++ s'.snd = all ∧ all.length ≤ (1000 : Nat) ∧ (s'.snd = [] → s'.fst = [])) ∧ s'.snd.length.succ ≤ (x :: y :: r).length ∧ risK s'.snd = risK (x :: y :: r) ∧ D.sl f (List.map kyD all) = D.sl f (List.map kyD all) ∧ D.int IntKind.i64 ((↑s'.fst.length : Int) + (1 : Int)) = D.int IntKind.i64 ((↑a.length : Int) + (1 : Int) + (1 : Int)))) (by kernel_rfl) ?_
    have hl : all.length = a.length + (r.length + 2) := by rw [← h1]; simp
    have g1 : (List.map kyD all)[((a.length : Int) + 1 - 1).toNat]? = some (kyD x) := by rw [show (a.length : Int) + 1 - 1 = (a.length : Int) by omega, ← h1]; exact get_midI kyD a x (y :: r)
    have g2 : (List.map kyD all)[((a.length : Int) + 1).toNat]? = some (kyD y) := by
      have := get_midI kyD (a ++ [x]) y r
      rw [show (((a ++ [x]).length : Nat) : Int) = (a.length : Int) + 1 by simp] at this
      rw [← h1, ← this]; simp
    have e : risK (x :: y :: r) = (lessK x y && risK (y :: r)) := rfl
    refine ⟨decide_eq_true (by omega), ink (by omega), x, by omega, g1, y, by omega, g2, trivial, fun h => ⟨(), ?_, rfl⟩, fun h => ⟨ink (by omega), (a ++ [x], y :: r), ⟨by simpa using h1, h2, fun h => by cases h⟩, Nat.le_refl _, ?_, rfl, ?_⟩⟩
    · rw [e, (Bool.not_eq_true' _).mp h]; rfl
    · have : lessK x y = true := by simpa using h
      rw [e, this]; rfl
    · simp
noncomputable def riCfg (f : Bool) (l : List Ky) : WCfg := { kCfg mgC [] with loops := fun k => match k with | 2 => some ((riL f l).row []) | _ => none }
theorem riN (f : Bool) (l : List Ky) (h : l.length ≤ 1000) : ∃ (b : List Ky × List Ky), (b.fst ++ b.snd = l ∧ l.length ≤ (1000 : Nat) ∧ (b.snd = [] → b.fst = [])) ∧ (D.sl f (List.map kyD l) = D.sl f (List.map kyD l) ∧ D.int IntKind.i64 ((↑b.fst.length : Int) + (1 : Int)) = D.int IntKind.i64 (1 : Int)) ∧ (∀ (a : Unit), risK b.snd = true → D.bool true = D.bool (risK l)) ∧ ∀ (a : Unit), risK b.snd = false → D.bool false = D.bool (risK l) := by
  refine ⟨([], l), ⟨rfl, h, fun _ => rfl⟩, ⟨rfl, rfl⟩, fun _ h => by rw [← h], fun _ h => by rw [← h]⟩
def riS (vs : List D) : Option DOut := match vs with | [.sl f xs] => some ⟨∃ l : List Ky, xs = l.map kyD ∧ l.length ≤ 1000, .bool (risK (xs.map dKy))⟩ | _ => none
def riC : Ctr := ⟨53, riS, by
  intro vs o ho hp
  unfold riS at ho
  split at ho
  · rename_i f xs
    injection ho with ho; subst ho
    obtain ⟨l, rfl, h⟩ := hp
    simp only [map_dKy]
    refine dataFunL (C := riCfg f l) (ctrs_ok mgC rfl rfl) rfl Try.func53 (by kernel_rfl) (l := [lp Try.f53 2]) (by kernel_rfl) ?_ (by kernel_rfl) (by kernel_rfl) (by kernel_rfl) (riN f l h)
    intro x hx
    rw [List.mem_singleton.1 hx]
    exact (riL f l).fits 2 [] (by kernel_rfl) rfl (riR f l)
  · cases ho⟩
end Go.Proofs.Ytfclelafcdcilaa.Dv
