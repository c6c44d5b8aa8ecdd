/- Who is far below the others: spread.Far. -/
import Derived.Test.YtfclelafcdcilaaA4
set_option linter.unusedVariables false
set_option linter.unusedSimpArgs false
namespace Go.Proofs.Ytfclelafcdcilaa.Dv
open Go Go.Proofs
def blD (b : Bool) : D := .bool b
def dB : D → Bool
  | .bool b => b
  | _ => false
theorem map_dB (l : List Bool) : (l.map blD).map dB = l := by rw [List.map_map]; exact (List.map_congr_left fun x _ => rfl).trans (List.map_id l)
theorem pure_blD (l : List Bool) : (l.map blD).all D.pure = true := by rw [List.all_eq_true]; intro x hx; obtain ⟨n, _, rfl⟩ := List.mem_map.1 hx; rfl
theorem okEl_blD (l : List Bool) : (l.map blD).all (okEl 1) = true := by rw [List.all_eq_true]; intro x hx; obtain ⟨n, _, rfl⟩ := List.mem_map.1 hx; rfl
def codsS : TypeId → Option Codec
  | 4 => some ⟨Bool, blD⟩
  | 3 => some ⟨Int, iD⟩
  | _ => none
def sCfg (l : List Ctr) (h : List (Nat × Hn)) : WCfg := { spec := specOf l, cod := codsS, H := hints h }
theorem ink {x : Int} (h : -9223372036854775808 ≤ x ∧ x ≤ 9223372036854775807) : inK .i64 x := h
theorem outD_of {id n : Nat} : ∀ {l : List D}, l.length = n + 1 → outD id l = .ms id 0 (n + 1) (n + 1) false
  | [], h => by simp at h
  | x :: l, h => by unfold outD; rw [h]
theorem outO_of {sz : Nat} : ∀ {l : List D}, l ≠ [] → outO sz l = some (.row .own sz l)
  | [], h => absurd rfl h
  | x :: l, h => rfl
/-! ### sums -/
def sq (l : List Int) : Int := (l.map fun r => r * r).sum
theorem sq_snoc (a : List Int) (x : Int) : sq (a ++ [x]) = sq a + x * x := by unfold sq; simp
theorem sum_snoc (a : List Int) (x : Int) : (a ++ [x]).sum = a.sum + x := by simp
theorem sqb {x : Int} (h0 : 0 ≤ x) (h1 : x ≤ 10000) : 0 ≤ x * x ∧ x * x ≤ 100000000 := ⟨Int.mul_nonneg h0 h0, Int.mul_le_mul h1 h1 h0 (by omega)⟩
theorem sumb : ∀ {l : List Int}, (∀ p ∈ l, 0 ≤ p ∧ p ≤ 10000) → 0 ≤ l.sum ∧ l.sum ≤ 10000 * (l.length : Int) ∧ 0 ≤ sq l ∧ sq l ≤ 100000000 * (l.length : Int)
  | [], _ => by simp [sq]
  | x :: l, h => by
    have h1 := sumb (l := l) fun p hp => h p (List.mem_cons_of_mem _ hp)
    have h2 := h x (List.mem_cons_self ..)
    have h3 := sqb h2.1 h2.2
    have e : sq (x :: l) = x * x + sq l := by unfold sq; simp
    rw [List.sum_cons, e, List.length_cons]
    generalize x * x = y at *
    omega
def fa1 (f : Bool) (fac : Int) (all : List Int) : WLoop :=
  { St := List Int × List Int
    O := Unit
    T := fun s => [(0, .sl f (all.map iD)), (1, .int .i64 fac), (5, .int .i64 s.1.sum), (6, .int .i64 (sq s.1)), (25, .sl f (all.map iD)), (26, .int .i64 (all.map iD).length), (27, .int .i64 s.1.length)]
    ok := fun s => s.1 ++ s.2 = all ∧ all.length ≤ 64 ∧ ∀ p ∈ all, 0 ≤ p ∧ p ≤ 10000
    μ := fun s => s.2.length
    m := fun _ => ()
    outs := [{ α := Unit, is := fun _ _ => True, ex := .exit 0, T := fun _ => [(0, .sl f (all.map iD)), (1, .int .i64 fac), (5, .int .i64 all.sum), (6, .int .i64 (sq all))] }] }
theorem fa1R (f : Bool) (fac : Int) (all : List Int) (s : (fa1 f fac all).St) (hs : (fa1 f fac all).ok s) : Tri Try.prog 0 83 (lp Try.f10 5) (tb ((fa1 f fac all).T s)) ((fa1 f fac all).S s) ((fa1 f fac all).q 0 s) := by
  obtain ⟨a, r⟩ := s
  obtain ⟨h1, h2, h3⟩ := hs
  simp only at h1
  cases r with
  | nil =>
    rw [List.append_nil] at h1
    subst h1
    refine round0 (C := sCfg [] [(28, .f)]) (ctrs_ok ([]) rfl rfl) (by kernel_rfl) (by kernel_rfl) (q := decide ((↑a.length : Int) < (↑(List.map iD a).length : Int)) = false ∧ ∃ (a_1 : Unit), True ∧ D.sl f (List.map iD a) = D.sl f (List.map iD a) ∧ D.int IntKind.i64 fac = D.int IntKind.i64 fac ∧ D.int IntKind.i64 a.sum = D.int IntKind.i64 a.sum ∧ D.int IntKind.i64 (sq a) = D.int IntKind.i64 (sq a)) (by kernel_rfl) ?_
    refine ⟨decide_eq_false (by rw [List.length_map]; omega), (), trivial, ?_⟩
    repeat' apply And.intro
    all_goals rfl
  | cons x r =>
    have hg : (List.map iD all)[((a.length : Int)).toNat]? = some (iD x) := by rw [← h1]; exact get_midI iD a x r
    have hll : ((a.length : Int) < ((List.map iD all).length : Int)) := by rw [← h1]; simp; omega
    have hix : D.int .i64 ((a ++ [x]).length : Int) = D.int .i64 ((a.length : Int) + 1) := by simp
    have hal : a.length + (r.length + 1) = all.length := by rw [← h1]; simp
    have hin : inK .i64 ((a.length : Int) + 1) := by simp only [inK]; omega
    have hok : (a ++ [x]) ++ r = all := by rw [← h1]; simp
    have hx := h3 x (by rw [← h1]; simp)
    have hxx := sqb hx.1 hx.2
    have hab := sumb (l := a) fun p hp => h3 p (by rw [← h1]; exact List.mem_append_left _ hp)
    refine round0 (C := sCfg [] [(28, .t), (33, .f), (36, .f)]) (ctrs_ok ([]) rfl rfl) (by kernel_rfl) (by kernel_rfl) (q := decide ((↑a.length : Int) < (↑(List.map iD all).length : Int)) = true ∧ ∃ (y : Int), (0 : Int) ≤ (↑a.length : Int) ∧ (List.map iD all)[(↑a.length : Int).toNat]? = some (D.int IntKind.i64 y) ∧ decide (y < (0 : Int)) = false ∧ decide ((10000 : Int) < y) = false ∧ inK IntKind.i64 (a.sum + y) ∧ inK IntKind.i64 (y * y) ∧ inK IntKind.i64 (sq a + y * y) ∧ inK IntKind.i64 ((↑a.length : Int) + (1 : Int)) ∧ ∃ (s' : List Int × List Int), (s'.fst ++ s'.snd = all ∧ all.length ≤ (64 : Nat) ∧ ∀ (p : Int), List.Mem p all → (0 : Int) ≤ p ∧ p ≤ (10000 : Int)) ∧ s'.snd.length.succ ≤ (x :: r).length ∧ () = () ∧ D.sl f (List.map iD all) = D.sl f (List.map iD all) ∧ D.int IntKind.i64 fac = D.int IntKind.i64 fac ∧ D.int IntKind.i64 s'.fst.sum = D.int IntKind.i64 (a.sum + y) ∧ D.int IntKind.i64 (sq s'.fst) = D.int IntKind.i64 (sq a + y * y) ∧ D.sl f (List.map iD all) = D.sl f (List.map iD all) ∧ D.int IntKind.i64 (↑(List.map iD all).length : Int) = D.int IntKind.i64 (↑(List.map iD all).length : Int) ∧ D.int IntKind.i64 (↑s'.fst.length : Int) = D.int IntKind.i64 ((↑a.length : Int) + (1 : Int))) (by kernel_rfl) ?_
    have es := sum_snoc a x
    have eq := sq_snoc a x
    have hal' : a.length ≤ 64 := by omega
    refine ⟨decide_eq_true hll, x, by omega, hg, decide_eq_false (by omega), decide_eq_false (by omega), ink (by omega), ink (by omega), ink (by omega), hin, (a ++ [x], r), ⟨hok, h2, h3⟩, Nat.le_refl _, rfl, ?_⟩
    repeat' apply And.intro
    all_goals first
      | exact rfl
      | exact hix
      | exact congrArg (D.int .i64) es
      | exact congrArg (D.int .i64) eq
theorem sqL {d : Int} (h0 : -640000 ≤ d) (h1 : d ≤ 640000) : 0 ≤ d * d ∧ d * d ≤ 409600000000 := by
  rcases Int.le_total 0 d with h | h
  · exact ⟨Int.mul_nonneg h h, Int.mul_le_mul h1 h1 h (by omega)⟩
  · have : d * d = (-d) * (-d) := by rw [Int.neg_mul_neg]
    rw [this]
    exact ⟨Int.mul_nonneg (by omega) (by omega), Int.mul_le_mul (show -d ≤ 640000 by omega) (show -d ≤ 640000 by omega) (by omega) (by omega)⟩
theorem oDb (id : Nat) (us : List Bool) (k : Bool) : outD id (List.map blD (us ++ [k])) = .ms id 0 ((List.map blD us).length + 1) ((List.map blD us).length + 1) false := outD_of (by rw [List.map_append, List.length_append]; rfl)
theorem oRb (us : List Bool) (k : Bool) : outO 1 (List.map blD (us ++ [k])) = some (.row .own 1 (List.take (List.map blD us).length (List.map blD us) ++ [blD k])) ∧ (List.take (List.map blD us).length (List.map blD us) ++ [blD k]).all D.pure = true := by
  have e : List.take (List.map blD us).length (List.map blD us) ++ [blD k] = List.map blD (us ++ [k]) := by rw [List.take_length, List.map_append]; rfl
  rw [e]
  exact ⟨outO_of (by simp), pure_blD _⟩
def farI (S Q n f r : Int) : Bool := if 0 < S - n * r then decide (0 < cmpI (pr ((S - n * r) * (S - n * r)) 1000000) (pr (f * f) (n * Q - S * S))) else false
def farV (f : Int) (l : List Int) : List Bool := l.map (farI l.sum (sq l) l.length f)
def fa2 (f : Bool) (fac : Int) (all : List Int) : WLoop :=
  { St := List Int × List Int × List Bool
    O := List Bool
    T := fun s => [(1, .int .i64 fac), (5, .int .i64 all.sum), (6, .int .i64 (sq all)), (9, .int .i64 (all.map iD).length), (10, outD 0 (s.2.2.map blD)), (48, .sl f (all.map iD)), (49, .int .i64 (all.map iD).length), (50, .int .i64 s.1.length)]
    S := fun s => [outO 1 (s.2.2.map blD)]
    ok := fun s => s.1 ++ s.2.1 = all ∧ s.2.2 = s.1.map (farI all.sum (sq all) all.length fac) ∧ all.length ≤ 64 ∧ (∀ p ∈ all, 0 ≤ p ∧ p ≤ 10000) ∧ 1 ≤ fac ∧ fac ≤ 10000
    μ := fun s => s.2.1.length
    m := fun _ => farV fac all
    src := [(2, true)]
    outs := [{ α := Unit, is := fun o _ => o = [], ex := .exit 2, T := fun _ => [(10, .sl true [])] },
      { α := Bool × List Bool, is := fun o a => o = a.1 :: a.2, ex := .exit 2, src := [(0, true)], T := fun a => [(10, outD 0 ((a.1 :: a.2).map blD))], S := fun a => [outO 1 ((a.1 :: a.2).map blD)] }] }
noncomputable def fa2C : List Ctr := [cmpC]
theorem fa2R (f : Bool) (fac : Int) (all : List Int) (s : (fa2 f fac all).St) (hs : (fa2 f fac all).ok s) : Tri Try.prog 0 83 (lp Try.f10 15) (tb ((fa2 f fac all).T s)) ((fa2 f fac all).S s) ((fa2 f fac all).q 0 s) := by
  obtain ⟨a, r, u⟩ := s
  obtain ⟨h1, h2, h3, h4, h5, h6⟩ := hs
  simp only at h1 h2
  cases r with
  | nil =>
    rw [List.append_nil] at h1
    subst h1
    cases u with
    | nil =>
      refine round0 (C := sCfg fa2C [(51, .f)]) (ctrs_ok (fa2C) rfl rfl) (by kernel_rfl) (by kernel_rfl) (q := decide ((↑a.length : Int) < (↑(List.map iD a).length : Int)) = false ∧ ((∃ (a_1 : Unit), farV fac a = [] ∧ D.sl true [] = D.sl true []) ∨ ∃ (a_1 : Bool × List Bool), farV fac a = a_1.fst :: a_1.snd ∧ D.ms (0 : Nat) (0 : Nat) (List.map blD (a_1.fst :: a_1.snd)).length (List.map blD (a_1.fst :: a_1.snd)).length false = D.sl true [] ∧ (some (Ob.row St.own (1 : Nat) (List.map blD (a_1.fst :: a_1.snd))) = none ∨ some (Ob.row St.own (1 : Nat) (List.map blD (a_1.fst :: a_1.snd))) = none ∧ False))) (by kernel_rfl) ?_
      exact ⟨decide_eq_false (by rw [List.length_map]; omega), .inl ⟨(), h2.symm, rfl⟩⟩
    | cons y ys =>
      refine round0 (C := sCfg fa2C [(51, .f)]) (ctrs_ok (fa2C) rfl rfl) (by kernel_rfl) (by kernel_rfl) (q := decide ((↑a.length : Int) < (↑(List.map iD a).length : Int)) = false ∧ ((∃ (a_1 : Unit), farV fac a = [] ∧ D.sl true [] = D.any) ∨ ∃ (a_1 : Bool × List Bool), farV fac a = a_1.fst :: a_1.snd ∧ D.ms (0 : Nat) (0 : Nat) (List.map blD (a_1.fst :: a_1.snd)).length (List.map blD (a_1.fst :: a_1.snd)).length false = D.ms (0 : Nat) (0 : Nat) (List.map blD (y :: ys)).length (List.map blD (y :: ys)).length false ∧ (some (Ob.row St.own (1 : Nat) (List.map blD (a_1.fst :: a_1.snd))) = none ∨ some (Ob.row St.own (1 : Nat) (List.map blD (a_1.fst :: a_1.snd))) = some (Ob.row St.own (1 : Nat) (List.map blD (y :: ys))) ∧ (List.map blD (y :: ys)).all D.pure = true))) (by kernel_rfl) ?_
      exact ⟨decide_eq_false (by rw [List.length_map]; omega), .inr ⟨(y, ys), h2.symm, rfl, .inr ⟨rfl, pure_blD _⟩⟩⟩
  | cons x r =>
    have hg : (List.map iD all)[((a.length : Int)).toNat]? = some (iD x) := by rw [← h1]; exact get_midI iD a x r
    have hll : ((a.length : Int) < ((List.map iD all).length : Int)) := by rw [← h1]; simp; omega
    have hix : D.int .i64 ((a ++ [x]).length : Int) = D.int .i64 ((a.length : Int) + 1) := by simp
    have hal : a.length + (r.length + 1) = all.length := by rw [← h1]; simp
    have hin : inK .i64 ((a.length : Int) + 1) := by simp only [inK]; omega
    have hok : (a ++ [x]) ++ r = all := by rw [← h1]; simp
    have hx := h4 x (by rw [← h1]; simp)
    obtain ⟨b1, b2, b3, b4⟩ := sumb h4
    have hLs : (List.map iD all).length = all.length := List.length_map ..
    have hnx : 0 ≤ (all.length : Int) * x ∧ (all.length : Int) * x ≤ 640000 := ⟨Int.mul_nonneg (by omega) hx.1, Int.le_trans (Int.mul_le_mul_of_nonneg_left hx.2 (by omega)) (by omega)⟩
    have hd := sqL (d := all.sum - (all.length : Int) * x) (by omega) (by omega)
    have hf : 0 ≤ fac * fac ∧ fac * fac ≤ 100000000 := sqb (by omega) h6
    have hQ : 0 ≤ (all.length : Int) * sq all ∧ (all.length : Int) * sq all ≤ 409600000000 := ⟨Int.mul_nonneg (by omega) b3, Int.le_trans (Int.mul_le_mul_of_nonneg_left (show sq all ≤ 6400000000 by omega) (by omega)) (by omega)⟩
    have hS := sqL (d := all.sum) (by omega) (by omega)
    rw [hLs] at hll
    have hmp : ∀ v : Bool, v = farI all.sum (sq all) all.length fac x → u ++ [v] = (a ++ [x]).map (farI all.sum (sq all) all.length fac) := fun v hv => by rw [List.map_append, ← h2, hv]; rfl
    have ht : 0 < all.sum - (all.length : Int) * x → decide (0 < cmpI (pr ((all.sum - (all.length : Int) * x) * (all.sum - (all.length : Int) * x)) 1000000) (pr (fac * fac) ((all.length : Int) * sq all - all.sum * all.sum))) = farI all.sum (sq all) all.length fac x := fun h => (if_pos h).symm
    have hfl : ¬ 0 < all.sum - (all.length : Int) * x → false = farI all.sum (sq all) all.length fac x := fun h => (if_neg h).symm
    cases u with
    | nil =>
      refine round0 (C := sCfg fa2C [(51, .t)]) (ctrs_ok (fa2C) rfl rfl) (by kernel_rfl) (by kernel_rfl) (q := decide ((↑a.length : Int) < (↑(List.map iD all).length : Int)) = true ∧ ∃ (y : Int), (0 : Int) ≤ (↑a.length : Int) ∧ (List.map iD all)[(↑a.length : Int).toNat]? = some (D.int IntKind.i64 y) ∧ inK IntKind.i64 ((↑(List.map iD all).length : Int) * y) ∧ inK IntKind.i64 (all.sum - (↑(List.map iD all).length : Int) * y) ∧ (decide ((0 : Int) < all.sum - (↑(List.map iD all).length : Int) * y) = true → inK IntKind.i64 ((all.sum - (↑(List.map iD all).length : Int) * y) * (all.sum - (↑(List.map iD all).length : Int) * y)) ∧ inK IntKind.i64 (fac * fac) ∧ inK IntKind.i64 ((↑(List.map iD all).length : Int) * sq all) ∧ inK IntKind.i64 (all.sum * all.sum) ∧ inK IntKind.i64 ((↑(List.map iD all).length : Int) * sq all - all.sum * all.sum) ∧ (rI ((all.sum - (↑(List.map iD all).length : Int) * y) * (all.sum - (↑(List.map iD all).length : Int) * y)) ∧ rI (1000000 : Int) ∧ rI (fac * fac) ∧ rI ((↑(List.map iD all).length : Int) * sq all - all.sum * all.sum)) ∧ inK IntKind.i64 ((↑a.length : Int) + (1 : Int)) ∧ ∃ (s' : List Int × List Int × List Bool), (s'.fst ++ s'.snd.fst = all ∧ s'.snd.snd = List.map (farI all.sum (sq all) (↑all.length : Int) fac) s'.fst ∧ all.length ≤ (64 : Nat) ∧ (∀ (p : Int), List.Mem p all → (0 : Int) ≤ p ∧ p ≤ (10000 : Int)) ∧ (1 : Int) ≤ fac ∧ fac ≤ (10000 : Int)) ∧ s'.snd.fst.length.succ ≤ (x :: r).length ∧ farV fac all = farV fac all ∧ (D.int IntKind.i64 fac = D.int IntKind.i64 fac ∧ D.int IntKind.i64 all.sum = D.int IntKind.i64 all.sum ∧ D.int IntKind.i64 (sq all) = D.int IntKind.i64 (sq all) ∧ D.int IntKind.i64 (↑(List.map iD all).length : Int) = D.int IntKind.i64 (↑(List.map iD all).length : Int) ∧ outD (0 : Nat) (List.map blD s'.snd.snd) = D.ms (0 : Nat) (0 : Nat) (1 : Nat) (1 : Nat) false ∧ D.sl f (List.map iD all) = D.sl f (List.map iD all) ∧ D.int IntKind.i64 (↑(List.map iD all).length : Int) = D.int IntKind.i64 (↑(List.map iD all).length : Int) ∧ D.int IntKind.i64 (↑s'.fst.length : Int) = D.int IntKind.i64 ((↑a.length : Int) + (1 : Int))) ∧ (outO (1 : Nat) (List.map blD s'.snd.snd) = none ∨ outO (1 : Nat) (List.map blD s'.snd.snd) = some (Ob.row St.own (1 : Nat) [D.bool (decide ((0 : Int) < cmpI (pr ((all.sum - (↑(List.map iD all).length : Int) * y) * (all.sum - (↑(List.map iD all).length : Int) * y)) (1000000 : Int)) (pr (fac * fac) ((↑(List.map iD all).length : Int) * sq all - all.sum * all.sum))))]) ∧ true = true)) ∧ (decide ((0 : Int) < all.sum - (↑(List.map iD all).length : Int) * y) = false → inK IntKind.i64 ((↑a.length : Int) + (1 : Int)) ∧ ∃ (s' : List Int × List Int × List Bool), (s'.fst ++ s'.snd.fst = all ∧ s'.snd.snd = List.map (farI all.sum (sq all) (↑all.length : Int) fac) s'.fst ∧ all.length ≤ (64 : Nat) ∧ (∀ (p : Int), List.Mem p all → (0 : Int) ≤ p ∧ p ≤ (10000 : Int)) ∧ (1 : Int) ≤ fac ∧ fac ≤ (10000 : Int)) ∧ s'.snd.fst.length.succ ≤ (x :: r).length ∧ farV fac all = farV fac all ∧ (D.int IntKind.i64 fac = D.int IntKind.i64 fac ∧ D.int IntKind.i64 all.sum = D.int IntKind.i64 all.sum ∧ D.int IntKind.i64 (sq all) = D.int IntKind.i64 (sq all) ∧ D.int IntKind.i64 (↑(List.map iD all).length : Int) = D.int IntKind.i64 (↑(List.map iD all).length : Int) ∧ outD (0 : Nat) (List.map blD s'.snd.snd) = D.ms (0 : Nat) (0 : Nat) (1 : Nat) (1 : Nat) false ∧ D.sl f (List.map iD all) = D.sl f (List.map iD all) ∧ D.int IntKind.i64 (↑(List.map iD all).length : Int) = D.int IntKind.i64 (↑(List.map iD all).length : Int) ∧ D.int IntKind.i64 (↑s'.fst.length : Int) = D.int IntKind.i64 ((↑a.length : Int) + (1 : Int))) ∧ (outO (1 : Nat) (List.map blD s'.snd.snd) = none ∨ outO (1 : Nat) (List.map blD s'.snd.snd) = some (Ob.row St.own (1 : Nat) [D.bool false]) ∧ true = true))) (by kernel_rfl) ?_
      rw [hLs]
      refine ⟨decide_eq_true hll, x, by omega, hg, ink (by omega), ink (by omega), fun he => ?_, fun he => ?_⟩
      · have he := of_decide_eq_true he
        refine ⟨ink (by omega), ink (by omega), ink (by omega), ink (by omega), ink (by omega), ⟨by unfold rI; omega, by unfold rI; omega, by unfold rI; omega, by unfold rI; omega⟩, hin, (a ++ [x], r, ([] : List Bool) ++ [decide (0 < cmpI (pr ((all.sum - (all.length : Int) * x) * (all.sum - (all.length : Int) * x)) 1000000) (pr (fac * fac) ((all.length : Int) * sq all - all.sum * all.sum)))]), ⟨hok, hmp _ (ht he), h3, h4, h5, h6⟩, Nat.le_refl _, rfl, ?_, .inr (oRb ([] : List Bool) _)⟩
        repeat' apply And.intro
        all_goals first
          | exact rfl
          | exact hix
          | exact oDb _ ([] : List Bool) _
      · have he := of_decide_eq_false he
        refine ⟨hin, (a ++ [x], r, ([] : List Bool) ++ [false]), ⟨hok, hmp _ (hfl he), h3, h4, h5, h6⟩, Nat.le_refl _, rfl, ?_, .inr (oRb ([] : List Bool) _)⟩
        repeat' apply And.intro
        all_goals first
          | exact rfl
          | exact hix
          | exact oDb _ ([] : List Bool) _
    | cons y ys =>
      refine round0 (C := sCfg fa2C [(51, .t)]) (ctrs_ok (fa2C) rfl rfl) (by kernel_rfl) (by kernel_rfl) (q := decide ((↑a.length : Int) < (↑(List.map iD all).length : Int)) = true ∧ ∃ (y_1 : Int), (0 : Int) ≤ (↑a.length : Int) ∧ (List.map iD all)[(↑a.length : Int).toNat]? = some (D.int IntKind.i64 y_1) ∧ inK IntKind.i64 ((↑(List.map iD all).length : Int) * y_1) ∧ inK IntKind.i64 (all.sum - (↑(List.map iD all).length : Int) * y_1) ∧ (decide ((0 : Int) < all.sum - (↑(List.map iD all).length : Int) * y_1) = true → inK IntKind.i64 ((all.sum - (↑(List.map iD all).length : Int) * y_1) * (all.sum - (↑(List.map iD all).length : Int) * y_1)) ∧ inK IntKind.i64 (fac * fac) ∧ inK IntKind.i64 ((↑(List.map iD all).length : Int) * sq all) ∧ inK IntKind.i64 (all.sum * all.sum) ∧ inK IntKind.i64 ((↑(List.map iD all).length : Int) * sq all - all.sum * all.sum) ∧ (rI ((all.sum - (↑(List.map iD all).length : Int) * y_1) * (all.sum - (↑(List.map iD all).length : Int) * y_1)) ∧ rI (1000000 : Int) ∧ rI (fac * fac) ∧ rI ((↑(List.map iD all).length : Int) * sq all - all.sum * all.sum)) ∧ (0 : Nat) + (List.map blD (y :: ys)).length ≤ (List.map blD (y :: ys)).length ∧ (List.map blD (y :: ys)).length ≤ (List.map blD (y :: ys)).length ∧ ((List.map blD (y :: ys)).length + (1 : Nat)) * (1 : Nat) ≤ (140737488355328 : Nat) ∧ (List.map blD (y :: ys)).length.succ ≤ (List.map blD (y :: ys)).length + (1 : Nat) ∧ (0 : Nat) = (0 : Nat) ∧ inK IntKind.i64 ((↑a.length : Int) + (1 : Int)) ∧ ∃ (s' : List Int × List Int × List Bool), (s'.fst ++ s'.snd.fst = all ∧ s'.snd.snd = List.map (farI all.sum (sq all) (↑all.length : Int) fac) s'.fst ∧ all.length ≤ (64 : Nat) ∧ (∀ (p : Int), List.Mem p all → (0 : Int) ≤ p ∧ p ≤ (10000 : Int)) ∧ (1 : Int) ≤ fac ∧ fac ≤ (10000 : Int)) ∧ s'.snd.fst.length.succ ≤ (x :: r).length ∧ farV fac all = farV fac all ∧ (D.int IntKind.i64 fac = D.int IntKind.i64 fac ∧ D.int IntKind.i64 all.sum = D.int IntKind.i64 all.sum ∧ D.int IntKind.i64 (sq all) = D.int IntKind.i64 (sq all) ∧ D.int IntKind.i64 (↑(List.map iD all).length : Int) = D.int IntKind.i64 (↑(List.map iD all).length : Int) ∧ outD (0 : Nat) (List.map blD s'.snd.snd) = D.ms (0 : Nat) (0 : Nat) ((List.map blD (y :: ys)).length + (1 : Nat)) ((List.map blD (y :: ys)).length + (1 : Nat)) false ∧ D.sl f (List.map iD all) = D.sl f (List.map iD all) ∧ D.int IntKind.i64 (↑(List.map iD all).length : Int) = D.int IntKind.i64 (↑(List.map iD all).length : Int) ∧ D.int IntKind.i64 (↑s'.fst.length : Int) = D.int IntKind.i64 ((↑a.length : Int) + (1 : Int))) ∧ (outO (1 : Nat) (List.map blD s'.snd.snd) = none ∨ outO (1 : Nat) (List.map blD s'.snd.snd) = some (Ob.row St.own (1 : Nat) (List.take (List.map blD (y :: ys)).length (List.map blD (y :: ys)) ++ [D.bool (decide ((0 : Int) < cmpI (pr ((all.sum - (↑(List.map iD all).length : Int) * y_1) * (all.sum - (↑(List.map iD all).length : Int) * y_1)) (1000000 : Int)) (pr (fac * fac) ((↑(List.map iD all).length : Int) * sq all - all.sum * all.sum))))])) ∧ (List.take (List.map blD (y :: ys)).length (List.map blD (y :: ys)) ++ [D.bool (decide ((0 : Int) < cmpI (pr ((all.sum - (↑(List.map iD all).length : Int) * y_1) * (all.sum - (↑(List.map iD all).length : Int) * y_1)) (1000000 : Int)) (pr (fac * fac) ((↑(List.map iD all).length : Int) * sq all - all.sum * all.sum))))]).all D.pure = true)) ∧ (decide ((0 : Int) < all.sum - (↑(List.map iD all).length : Int) * y_1) = false → (0 : Nat) + (List.map blD (y :: ys)).length ≤ (List.map blD (y :: ys)).length ∧ (List.map blD (y :: ys)).length ≤ (List.map blD (y :: ys)).length ∧ ((List.map blD (y :: ys)).length + (1 : Nat)) * (1 : Nat) ≤ (140737488355328 : Nat) ∧ (List.map blD (y :: ys)).length.succ ≤ (List.map blD (y :: ys)).length + (1 : Nat) ∧ (0 : Nat) = (0 : Nat) ∧ inK IntKind.i64 ((↑a.length : Int) + (1 : Int)) ∧ ∃ (s' : List Int × List Int × List Bool), (s'.fst ++ s'.snd.fst = all ∧ s'.snd.snd = List.map (farI all.sum (sq all) (↑all.length : Int) fac) s'.fst ∧ all.length ≤ (64 : Nat) ∧ (∀ (p : Int), List.Mem p all → (0 : Int) ≤ p ∧ p ≤ (10000 : Int)) ∧ (1 : Int) ≤ fac ∧ fac ≤ (10000 : Int)) ∧ s'.snd.fst.length.succ ≤ (x :: r).length ∧ farV fac all = farV fac all ∧ (D.int IntKind.i64 fac = D.int IntKind.i64 fac ∧ D.int IntKind.i64 all.sum = D.int IntKind.i64 all.sum ∧ D.int IntKind.i64 (sq all) = D.int IntKind.i64 (sq all) ∧ D.int IntKind.i64 (↑(List.map iD all).length : Int) = D.int IntKind.i64 (↑(List.map iD all).length : Int) ∧ outD (0 : Nat) (List.map blD s'.snd.snd) = D.ms (0 : Nat) (0 : Nat) ((List.map blD (y :: ys)).length + (1 : Nat)) ((List.map blD (y :: ys)).length + (1 : Nat)) false ∧ D.sl f (List.map iD all) = D.sl f (List.map iD all) ∧ D.int IntKind.i64 (↑(List.map iD all).length : Int) = D.int IntKind.i64 (↑(List.map iD all).length : Int) ∧ D.int IntKind.i64 (↑s'.fst.length : Int) = D.int IntKind.i64 ((↑a.length : Int) + (1 : Int))) ∧ (outO (1 : Nat) (List.map blD s'.snd.snd) = none ∨ outO (1 : Nat) (List.map blD s'.snd.snd) = some (Ob.row St.own (1 : Nat) (List.take (List.map blD (y :: ys)).length (List.map blD (y :: ys)) ++ [D.bool false])) ∧ (List.take (List.map blD (y :: ys)).length (List.map blD (y :: ys)) ++ [D.bool false]).all D.pure = true))) (by kernel_rfl) ?_
      have hUl : (List.map blD (y :: ys)).length ≤ 1000 := by rw [List.length_map, h2, List.length_map]; omega
      rw [hLs]
      refine ⟨decide_eq_true hll, x, by omega, hg, ink (by omega), ink (by omega), fun he => ?_, fun he => ?_⟩
      · have he := of_decide_eq_true he
        refine ⟨ink (by omega), ink (by omega), ink (by omega), ink (by omega), ink (by omega), ⟨by unfold rI; omega, by unfold rI; omega, by unfold rI; omega, by unfold rI; omega⟩, by omega, by omega, by omega, by omega, rfl, hin, (a ++ [x], r, (y :: ys) ++ [decide (0 < cmpI (pr ((all.sum - (all.length : Int) * x) * (all.sum - (all.length : Int) * x)) 1000000) (pr (fac * fac) ((all.length : Int) * sq all - all.sum * all.sum)))]), ⟨hok, hmp _ (ht he), h3, h4, h5, h6⟩, Nat.le_refl _, rfl, ?_, .inr (oRb (y :: ys) _)⟩
        repeat' apply And.intro
        all_goals first
          | exact rfl
          | exact hix
          | exact oDb _ (y :: ys) _
      · have he := of_decide_eq_false he
        refine ⟨by omega, by omega, by omega, by omega, rfl, hin, (a ++ [x], r, (y :: ys) ++ [false]), ⟨hok, hmp _ (hfl he), h3, h4, h5, h6⟩, Nat.le_refl _, rfl, ?_, .inr (oRb (y :: ys) _)⟩
        repeat' apply And.intro
        all_goals first
          | exact rfl
          | exact hix
          | exact oDb _ (y :: ys) _
noncomputable def faCfg (f : Bool) (fac : Int) (l : List Int) : WCfg := { sCfg fa2C [(17, .f), (21, .f), (24, .f)] with loops := fun k => match k with | 5 => some ((fa1 f fac l).row []) | 15 => some ((fa2 f fac l).row [(0, true)]) | _ => none }
theorem faN (f : Bool) (fac : Int) (l : List Int) (h1 : l.length ≤ 64) (h2 : ∀ p ∈ l, 0 ≤ p ∧ p ≤ 10000) (h3 : 1 ≤ fac) (h4 : fac ≤ 10000) : decide ((64 : Int) < (↑(List.map iD l).length : Int)) = false ∧ decide (fac < (1 : Int)) = false ∧ decide ((10000 : Int) < fac) = false ∧ ∃ (b : List Int × List Int), (b.fst ++ b.snd = l ∧ l.length ≤ (64 : Nat) ∧ ∀ (p : Int), List.Mem p l → (0 : Int) ≤ p ∧ p ≤ (10000 : Int)) ∧ (D.sl f (List.map iD l) = D.sl f (List.map iD l) ∧ D.int IntKind.i64 fac = D.int IntKind.i64 fac ∧ D.int IntKind.i64 b.fst.sum = D.int IntKind.i64 (0 : Int) ∧ D.int IntKind.i64 (sq b.fst) = D.int IntKind.i64 (0 : Int) ∧ D.sl f (List.map iD l) = D.sl f (List.map iD l) ∧ D.int IntKind.i64 (↑(List.map iD l).length : Int) = D.int IntKind.i64 (↑(List.map iD l).length : Int) ∧ D.int IntKind.i64 (↑b.fst.length : Int) = D.int IntKind.i64 (0 : Int)) ∧ ∀ (a : Unit), True → ∃ (b : List Int × List Int × List Bool), (b.fst ++ b.snd.fst = l ∧ b.snd.snd = List.map (farI l.sum (sq l) (↑l.length : Int) fac) b.fst ∧ l.length ≤ (64 : Nat) ∧ (∀ (p : Int), List.Mem p l → (0 : Int) ≤ p ∧ p ≤ (10000 : Int)) ∧ (1 : Int) ≤ fac ∧ fac ≤ (10000 : Int)) ∧ ((D.int IntKind.i64 fac = D.int IntKind.i64 fac ∧ D.int IntKind.i64 l.sum = D.int IntKind.i64 l.sum ∧ D.int IntKind.i64 (sq l) = D.int IntKind.i64 (sq l) ∧ D.int IntKind.i64 (↑(List.map iD l).length : Int) = D.int IntKind.i64 (↑(List.map iD l).length : Int) ∧ outD (0 : Nat) (List.map blD b.snd.snd) = D.sl true [] ∧ D.sl f (List.map iD l) = D.sl f (List.map iD l) ∧ D.int IntKind.i64 (↑(List.map iD l).length : Int) = D.int IntKind.i64 (↑(List.map iD l).length : Int) ∧ D.int IntKind.i64 (↑b.fst.length : Int) = D.int IntKind.i64 (0 : Int)) ∧ (outO (1 : Nat) (List.map blD b.snd.snd) = none ∨ outO (1 : Nat) (List.map blD b.snd.snd) = none ∧ False)) ∧ (∀ (a : Unit), farV fac l = [] → D.sl true [] = D.sl (farV fac l).isEmpty (List.map blD (farV fac l))) ∧ ∀ (a : Bool × List Bool), farV fac l = a.fst :: a.snd → (0 : Nat) + (List.map blD (a.fst :: a.snd)).length ≤ (List.map blD (a.fst :: a.snd)).length ∧ (List.take (List.map blD (a.fst :: a.snd)).length (List.drop (0 : Nat) (List.map blD (a.fst :: a.snd)))).all D.pure = true ∧ D.sl false (List.take (List.map blD (a.fst :: a.snd)).length (List.drop (0 : Nat) (List.map blD (a.fst :: a.snd)))) = D.sl (farV fac l).isEmpty (List.map blD (farV fac l)) := by
  have hLs : (List.map iD l).length = l.length := List.length_map ..
  refine ⟨decide_eq_false (by omega), decide_eq_false (by omega), decide_eq_false (by omega), ([], l), ⟨rfl, h1, h2⟩, ?_, fun _ _ => ⟨([], l, []), ⟨rfl, rfl, h1, h2, h3, h4⟩, ⟨?_, .inl rfl⟩, fun _ h => by rw [h]; rfl, fun a h => ?_⟩⟩
  · repeat' apply And.intro
    all_goals rfl
  · repeat' apply And.intro
    all_goals rfl
  · rw [h, List.drop_zero, List.take_length]
    exact ⟨by omega, pure_blD _, rfl⟩
def farS (vs : List D) : Option DOut := match vs with | [.sl f xs, .int .i64 fac] => some ⟨∃ l : List Int, xs = l.map iD ∧ l.length ≤ 64 ∧ (∀ p ∈ l, 0 ≤ p ∧ p ≤ 10000) ∧ 1 ≤ fac ∧ fac ≤ 10000, .sl (farV fac (xs.map dI)).isEmpty ((farV fac (xs.map dI)).map blD)⟩ | _ => none
/-- spread.Far. -/
def farC : Ctr := ⟨10, farS, by
  intro vs o ho hp
  unfold farS at ho
  split at ho
  · rename_i f xs fac
    injection ho with ho; subst ho
    obtain ⟨l, rfl, h1, h2, h3, h4⟩ := hp
    simp only [map_dI]
    refine dataFunL (C := faCfg f fac l) (ctrs_ok fa2C rfl rfl) rfl Try.func10 (by kernel_rfl) (l := [lp Try.f10 5, lp Try.f10 15]) (by kernel_rfl) ?_ (by kernel_rfl) (by kernel_rfl) (by kernel_rfl) (faN f fac l h1 h2 h3 h4)
    intro x hx
    simp only [List.mem_cons, List.not_mem_nil, or_false] at hx
    rcases hx with rfl | rfl
    · exact (fa1 f fac l).fits 5 [] (by kernel_rfl) rfl (fa1R f fac l)
    · exact (fa2 f fac l).fits 15 [(0, true)] (by kernel_rfl) rfl (fa2R f fac l)
  · cases ho⟩
end Go.Proofs.Ytfclelafcdcilaa.Dv
