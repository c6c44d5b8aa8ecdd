/- What is spread, and rows that are alike. -/
import Derived.Test.YtgibpomhiilehaaA5
set_option linter.unusedVariables false
set_option linter.unusedSimpArgs false
namespace Go.Proofs.Ytgibpomhiilehaa.Dv
open Go Go.Proofs
/-! ### rows of numbers that are alike -/
def intsL (f g : Bool) (l m : List Int) : WLoop := { St := Nat, O := Bool, T := fun i => [(0, .sl f (l.map iD)), (1, .sl g (m.map iD)), (12, .int .i64 (l.map iD).length), (13, .int .i64 i)], ok := fun i => i ≤ l.length ∧ l.length = m.length ∧ l.length ≤ 140737488355328, μ := fun i => l.length - i, m := fun i => decide (l.drop i = m.drop i),
                                                      outs := [{ α := Unit, is := fun o _ => o = true, ex := .exit 0, T := fun _ => [] }, { α := Unit, is := fun o _ => o = false, ex := .ret, T := fun _ => [(4, .bool false)] }] }
theorem intsR (f g : Bool) (l m : List Int) (i : Nat) (hi : (intsL f g l m).ok i) : Tri Try.prog 0 26 (lp Try.f44 4) (tb ((intsL f g l m).T i)) ((intsL f g l m).S i) ((intsL f g l m).q 0 i) := by
  obtain ⟨h1, h2, h3⟩ := hi
  rcases Nat.lt_or_ge i l.length with h | h
  · refine round0 (C := cfgH [] [(14, .t)]) (ctrs_ok ([]) rfl rfl) (by kernel_rfl) (by kernel_rfl) (q := decide ((↑i : Int) < (↑(List.map iD l).length : Int)) = true ∧ ∃ (y : Int), (0 : Int) ≤ (↑i : Int) ∧ (List.map iD l)[(↑i : Int).toNat]? = some (D.int IntKind.i64 y) ∧ ∃ (y_1 : Int), (0 : Int) ≤ (↑i : Int) ∧ (List.map iD m)[(↑i : Int).toNat]? = some (D.int IntKind.i64 y_1) ∧ (decide (y ≠ y_1) = true → ∃ (a : Unit), decide (List.drop i l = List.drop i m) = false ∧ D.bool false = D.bool false) ∧ (decide (y ≠ y_1) = false → inK IntKind.i64 ((↑i : Int) + (1 : Int)) ∧ ∃ (s' : Nat), (s' ≤ l.length ∧ l.length = m.length ∧ l.length ≤ (140737488355328 : Nat)) ∧ (l.length - s').succ ≤ l.length - i ∧ decide (List.drop s' l = List.drop s' m) = decide (List.drop i l = List.drop i m) ∧ D.sl f (List.map iD l) = D.sl f (List.map iD l) ∧ D.sl g (List.map iD m) = D.sl g (List.map iD m) ∧ D.int IntKind.i64 (↑(List.map iD l).length : Int) = D.int IntKind.i64 (↑(List.map iD l).length : Int) ∧ D.int IntKind.i64 (↑s' : Int) = D.int IntKind.i64 ((↑i : Int) + (1 : Int)))) (by kernel_rfl) ?_
    have hm : i < m.length := by omega
    have e1 : l.drop i = l[i] :: l.drop (i + 1) := List.drop_eq_getElem_cons h
    have e2 : m.drop i = m[i] :: m.drop (i + 1) := List.drop_eq_getElem_cons hm
    refine ⟨by simp; omega, l[i], by omega, by simp [h, iD], m[i], by omega, by simp [hm, iD], chks (fun hne => ⟨(), ?_, rfl⟩) fun heq => ⟨by simp only [inK]; omega, i + 1, by omega, by omega, ?_, rfl, rfl, rfl, by simp⟩⟩
    · exact decide_eq_false (by rw [e1, e2]; intro hh; injection hh with h1 _; exact hne h1)
    · rw [e1, e2]; simp only [List.cons.injEq]; simp [Decidable.of_not_not heq]
  · refine round0 (C := cfgH [] [(14, .f)]) (ctrs_ok ([]) rfl rfl) (by kernel_rfl) (by kernel_rfl) (q := decide ((↑i : Int) < (↑(List.map iD l).length : Int)) = false ∧ ∃ (a : Unit), decide (List.drop i l = List.drop i m) = true ∧ True) (by kernel_rfl) ?_
    exact ⟨by simp; omega, (), by rw [List.drop_of_length_le h, List.drop_of_length_le (by omega)]; rfl, trivial⟩
def intsCfg (f g : Bool) (l m : List Int) : WCfg := { cfgOf [] with loops := fun k => match k with | 4 => some ((intsL f g l m).row []) | _ => none }
def intsS (vs : List D) : Option DOut := match vs with | [.sl _ ys, .sl _ zs] => some ⟨(ys = (ys.map dI).map iD ∧ zs = (zs.map dI).map iD) ∧ ys.length ≤ 140737488355328 ∧ zs.length ≤ 140737488355328, .bool (decide (ys.map dI = zs.map dI))⟩ | _ => none
theorem intsN (f g : Bool) (l m : List Int) (h : l.length ≤ 140737488355328) (hm : m.length ≤ 140737488355328) : (decide ((↑(List.map iD l).length : Int) ≠ (↑(List.map iD m).length : Int)) = true → D.bool false = D.bool (decide (l = m))) ∧ (decide ((↑(List.map iD l).length : Int) ≠ (↑(List.map iD m).length : Int)) = false → ∃ (b : Nat), (b ≤ l.length ∧ l.length = m.length ∧ l.length ≤ (140737488355328 : Nat)) ∧ (D.sl f (List.map iD l) = D.sl f (List.map iD l) ∧ D.sl g (List.map iD m) = D.sl g (List.map iD m) ∧ D.int IntKind.i64 (↑(List.map iD l).length : Int) = D.int IntKind.i64 (↑(List.map iD l).length : Int) ∧ D.int IntKind.i64 (↑b : Int) = D.int IntKind.i64 (0 : Int)) ∧ (∀ (a : Unit), decide (List.drop b l = List.drop b m) = true → D.bool true = D.bool (decide (l = m))) ∧ ∀ (a : Unit), decide (List.drop b l = List.drop b m) = false → D.bool false = D.bool (decide (l = m))) := by
  refine chks (fun hne => ?_) fun heq => ?_
  · congr 1; symm; exact decide_eq_false fun h => hne (by rw [h])
  · refine ⟨0, ⟨by omega, by simp at heq; omega, h⟩, by simp, fun _ h => ?_, fun _ h => ?_⟩
    · simp only [List.drop_zero] at h; rw [h]
    · simp only [List.drop_zero] at h; rw [h]
def intsC : Ctr := ⟨44, intsS, by
  intro vs o ho hp
  unfold intsS at ho
  split at ho
  · rename_i f ys g zs
    injection ho with ho; subst ho
    obtain ⟨⟨h1, h2⟩, h3, h4⟩ := hp
    obtain ⟨l, rfl⟩ : ∃ l : List Int, ys = l.map iD := ⟨_, h1⟩
    obtain ⟨m, rfl⟩ : ∃ m : List Int, zs = m.map iD := ⟨_, h2⟩
    simp only [map_dI, List.length_map] at h3 h4 ⊢
    refine dataFunL (C := intsCfg f g l m) (ctrs_ok [] rfl rfl) rfl Try.func44 (by kernel_rfl) (l := [lp Try.f44 4]) (by kernel_rfl) ?_ (by kernel_rfl) (by kernel_rfl) (by kernel_rfl) (intsN f g l m h3 h4)
    intro x hx
    rw [List.mem_singleton.1 hx]
    exact (intsL f g l m).fits 4 [] (by kernel_rfl) rfl (intsR f g l m)
  · cases ho⟩
/-! ### what is spread -/
def baseV (t s p : Int) : Int := (mdI t (max p 0) s).1
def bases (t s : Int) (l : List Int) : List Int := l.map (baseV t s)
/-- One more to each that has a part, as long as some is left. -/
def give : Int → List Int → List Int → Int × List Int
  | left, p :: l, o :: os => if 0 < p ∧ 0 < left then ((give (left - 1) l os).1, (o + 1) :: (give (left - 1) l os).2) else ((give left l os).1, o :: (give left l os).2)
  | left, _, _ => (left, [])
def spreadV (t : Int) (l : List Int) : List Int := if t < 0 ∨ 1000000 < t ∨ sumV l = 0 ∨ ∃ p ∈ l, 4611686018427387904 / (l.length : Int) < p then [] else (give (t - (bases t (sumV l) l).sum) l (bases t (sumV l) l)).2
def npos (l : List Int) : Int := (l.filter fun p => decide (0 < p)).length
theorem npos_cons (p : Int) (l : List Int) : npos (p :: l) = (if 0 < p then 1 else 0) + npos l := by
  unfold npos
  by_cases h : 0 < p <;> simp [h] <;> omega
theorem npos_nonneg (l : List Int) : 0 ≤ npos l := by unfold npos; omega
theorem give_len : ∀ (left : Int) (l os : List Int), l.length = os.length → (give left l os).2.length = l.length
  | left, [], [], _ => rfl
  | left, p :: l, o :: os, h => by
    have h' : l.length = os.length := by simpa using h
    unfold give
    split <;> simp [give_len _ l os h']
/-- If no more is left than there are with a part, none is left behind. -/
theorem give_all : ∀ (left : Int) (l os : List Int), l.length = os.length → 0 ≤ left → left ≤ npos l → (give left l os).1 = 0
  | left, [], [], _, h1, h2 => by have : npos [] = 0 := rfl; show left = 0; omega
  | left, p :: l, o :: os, h, h1, h2 => by
    have h' : l.length = os.length := by simpa using h
    rw [npos_cons] at h2
    have := npos_nonneg l
    unfold give
    split
    · rename_i hh
      rw [if_pos hh.1] at h2
      exact give_all _ l os h' (by omega) (by omega)
    · rename_i hh
      refine give_all _ l os h' h1 ?_
      by_cases hp : 0 < p
      · have : ¬ 0 < left := fun hl => hh ⟨hp, hl⟩
        omega
      · rw [if_neg hp] at h2; omega
theorem baseV_bound {t s p : Int} (ht : 0 ≤ t) (ht1 : t ≤ 1000000) (hs : 0 < s) (hp : max p 0 ≤ s) : 0 ≤ baseV t s p ∧ baseV t s p ≤ t ∧ s * baseV t s p ≤ t * max p 0 ∧ t * max p 0 ≤ s * baseV t s p + (if 0 < p then s - 1 else 0) := by
  have h0 : 0 ≤ max p 0 := by omega
  have h1 := Int.mul_nonneg ht h0
  have h2 : t * max p 0 / s ≤ t := by
    refine Int.ediv_le_of_le_mul hs ?_
    exact Int.mul_le_mul_of_nonneg_left hp ht
  have h3 : 0 ≤ t * max p 0 / s := Int.ediv_nonneg h1 (by omega)
  have e : baseV t s p = t * max p 0 / s := by unfold baseV; rw [mdI_ok ht h0 (by omega) (by omega)]
  rw [e]
  have h4 := Int.mul_ediv_add_emod (t * max p 0) s
  have h5 := Int.emod_nonneg (t * max p 0) (show s ≠ 0 by omega)
  have h6 := Int.emod_lt_of_pos (t * max p 0) hs
  refine ⟨h3, h2, by omega, ?_⟩
  by_cases hp : 0 < p
  · rw [if_pos hp]; omega
  · have : max p 0 = 0 := by omega
    rw [this, Int.mul_zero, Int.zero_ediv, Int.mul_zero, if_neg hp]; omega
theorem tot_mem {p : Int} : ∀ {l : List Int}, p ∈ l → max p 0 ≤ tot l
  | x :: l, h => by
    have h1 := tot_nonneg l
    show max p 0 ≤ max x 0 + tot l
    rcases List.mem_cons.1 h with rfl | h
    · omega
    · have := tot_mem h; omega
theorem bases_bound {t s : Int} (ht : 0 ≤ t) (ht1 : t ≤ 1000000) (hs : 0 < s) : ∀ (l : List Int), (∀ p ∈ l, max p 0 ≤ s) → s * (bases t s l).sum ≤ t * tot l ∧ t * tot l ≤ s * (bases t s l).sum + (s - 1) * npos l
  | [], _ => by simp [bases, tot, npos]
  | p :: l, h => by
    obtain ⟨h1, h2⟩ := bases_bound ht ht1 hs l fun q hq => h q (List.mem_cons_of_mem _ hq)
    obtain ⟨_, _, h3, h4⟩ := baseV_bound ht ht1 hs (h p (List.mem_cons_self ..))
    have e : (bases t s (p :: l)).sum = baseV t s p + (bases t s l).sum := by simp [bases]
    have e2 : tot (p :: l) = max p 0 + tot l := rfl
    rw [e, e2, npos_cons, Int.mul_add, Int.mul_add, Int.mul_add]
    constructor
    · omega
    · by_cases hp : 0 < p
      · rw [if_pos hp] at h4 ⊢; omega
      · rw [if_neg hp] at h4 ⊢; omega
/-- What is left behind the first shares: fewer than there are with a part. -/
theorem left_bound {t : Int} (ht : 0 ≤ t) (ht1 : t ≤ 1000000) {l : List Int} (hs : 0 < tot l) : 0 ≤ t - (bases t (tot l) l).sum ∧ t - (bases t (tot l) l).sum ≤ npos l := by
  obtain ⟨h1, h2⟩ := bases_bound ht ht1 hs l fun p hp => tot_mem hp
  have hn := npos_nonneg l
  generalize (bases t (tot l) l).sum = B at *
  generalize tot l = s at *
  generalize npos l = n at *
  have e1 : t * s = s * t := Int.mul_comm _ _
  rw [e1] at h1 h2
  constructor
  · have := Int.le_of_mul_le_mul_left h1 hs; omega
  · have h3 : s * t ≤ s * (B + n) := by
      rw [Int.mul_add]
      have : (s - 1) * n ≤ s * n := Int.mul_le_mul_of_nonneg_right (by omega) hn
      omega
    have := Int.le_of_mul_le_mul_left h3 hs
    omega
theorem bases_sum_nonneg {t s : Int} (ht : 0 ≤ t) (ht1 : t ≤ 1000000) (hs : 0 < s) : ∀ (l : List Int), (∀ p ∈ l, max p 0 ≤ s) → 0 ≤ (bases t s l).sum
  | [], _ => by simp [bases]
  | p :: l, h => by
    have h1 := bases_sum_nonneg ht ht1 hs l fun q hq => h q (List.mem_cons_of_mem _ hq)
    obtain ⟨h2, _⟩ := baseV_bound ht ht1 hs (h p (List.mem_cons_self ..))
    have e : (bases t s (p :: l)).sum = baseV t s p + (bases t s l).sum := by simp [bases]
    omega
/-- Where no part is too great, the sum is the sum. -/
theorem tot_small {B : Int} (hB : 0 ≤ B) : ∀ {l : List Int}, (∀ p ∈ l, p ≤ B) → tot l ≤ l.length * B
  | [], _ => by simp [tot]
  | p :: l, h => by
    have h1 := tot_small hB fun q hq => h q (List.mem_cons_of_mem _ hq)
    have h2 := h p (List.mem_cons_self ..)
    have e2 : tot (p :: l) = max p 0 + tot l := rfl
    have e3 : (((p :: l).length : Nat) : Int) * B = l.length * B + B := by rw [List.length_cons, Int.natCast_add, Int.add_mul]; simp
    rw [e2, e3]; omega
theorem sumV_tot {l : List Int} (h : ∀ p ∈ l, ¬ 4611686018427387904 / (l.length : Int) < p) : sumV l = tot l := by
  unfold sumV
  cases l with
  | nil => rfl
  | cons x r =>
    have hl : (0 : Int) < ((x :: r).length : Nat) := by simp
    generalize hL : x :: r = l at *
    have h1 := tot_small (B := 4611686018427387904 / (l.length : Int)) (Int.ediv_nonneg (by omega) (by omega)) fun p hp => Int.not_lt.1 (h p hp)
    have h2 := Int.mul_ediv_self_le (x := 4611686018427387904) (k := (l.length : Int)) (by omega)
    omega
end Go.Proofs.Ytgibpomhiilehaa.Dv
