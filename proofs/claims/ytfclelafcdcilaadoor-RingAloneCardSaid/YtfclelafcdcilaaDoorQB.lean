/- Words; who may be a host. -/
import Derived.Test.YtfclelafcdcilaaDoorQ8
set_option linter.unusedVariables false
set_option linter.unusedSimpArgs false
namespace Go.Proofs.YtfclelafcdcilaaDoor.Dv
open Go Go.Proofs
def okCh (b : UInt8) : Bool := decide ((97 ≤ b.toNat ∧ b.toNat ≤ 122) ∨ (48 ≤ b.toNat ∧ b.toNat ≤ 57) ∨ b.toNat = 45 ∨ b.toNat = 46)
def bs (s : ByteArray) : List UInt8 := s.data.toList
def dash : ByteArray := ⟨#[45]⟩
def nameB (s : ByteArray) : Bool := (bs s).all okCh && decide (1 ≤ s.size ∧ s.size ≤ 12 ∧ s ≠ dash)
theorem bs_len (s : ByteArray) : (bs s).length = s.size := rfl
theorem bs_get (s : ByteArray) (i : Nat) : s[i]? = (bs s)[i]? := by
  unfold bs
  rw [Array.getElem?_toList]
  by_cases h : i < s.size
  · rw [getElem?_pos s i h, getElem?_pos s.data i h]; rfl
  · rw [getElem?_neg s i h, getElem?_neg s.data i h]
def wordL (s : ByteArray) : WLoop := { St := Nat, O := Bool, T := fun i => [(0, .str s), (18, .int .i64 s.size), (19, .int .i64 i)], ok := fun i => i ≤ s.size ∧ s.size ≤ 9223372036854775807, μ := fun i => s.size - i, m := fun i => ((bs s).drop i).all okCh
                                       outs := [{ α := Unit, is := fun o _ => o = true, ex := .exit 0, T := fun _ => [] }, { α := Unit, is := fun o _ => o = false, ex := .ret, T := fun _ => [(2, .bool false)] }] }
theorem drop_all {s : ByteArray} {i : Nat} {b : UInt8} (h : (bs s)[i]? = some b) : ((bs s).drop i).all okCh = (okCh b && ((bs s).drop (i + 1)).all okCh) := by
  obtain ⟨h1, h2⟩ := List.getElem?_eq_some_iff.1 h
  rw [List.drop_eq_getElem_cons h1, h2]; rfl
theorem wordR (s : ByteArray) (i : Nat) (hi : (wordL s).ok i) : Tri Tryd.prog 0 48 (lp Tryd.f19 4) (tb ((wordL s).T i)) ((wordL s).S i) ((wordL s).q 0 i) := by
  obtain ⟨h1, h2⟩ := hi
  rcases Nat.lt_or_ge i s.size with h | h
  · refine round0 (C := cfgH [] [(20, .t)]) (ctrs_ok [] rfl rfl) (by kernel_rfl) (by kernel_rfl) (q := decide ((↑i : Int) < (↑s.size : Int)) = true ∧ ∃ (b : UInt8), (0 : Int) ≤ (↑i : Int) ∧ s[(↑i : Int).toNat]? = some b ∧ (decide ((↑b.toNat : Int) < (97 : Int)) = true → (decide ((↑b.toNat : Int) < (48 : Int)) = true → (decide ((↑b.toNat : Int) ≠ (45 : Int)) = true → (decide ((↑b.toNat : Int) ≠ (46 : Int)) = true → ∃ (a : Unit), (List.drop i (bs s)).all okCh = false ∧ D.bool false = D.bool false) ∧ (decide ((↑b.toNat : Int) ≠ (46 : Int)) = false → inK IntKind.i64 ((↑i : Int) + (1 : Int)) ∧ ∃ (s' : Nat), (s' ≤ s.size ∧ s.size ≤ (9223372036854775807 : Nat)) ∧ (s.size - s').succ ≤ s.size - i ∧ (List.drop s' (bs s)).all okCh = (List.drop i (bs s)).all okCh ∧ D.str s = D.str s ∧ D.int IntKind.i64 (↑s.size : Int) = D.int IntKind.i64 (↑s.size : Int) ∧ D.int IntKind.i64 (↑s' : Int) = D.int IntKind.i64 ((↑i : Int) + (1 : Int)))) ∧ (decide ((↑b.toNat : Int) ≠ (45 : Int)) = false → inK IntKind.i64 ((↑i : Int) + (1 : Int)) ∧ ∃ (s' : Nat), (s' ≤ s.size ∧ s.size ≤ (9223372036854775807 : Nat)) ∧ (s.size - s').succ ≤ s.size - i ∧ (List.drop s' (bs s)).all okCh = (List.drop i (bs s)).all okCh ∧ D.str s = D.str s ∧ D.int IntKind.i64 (↑s.size : Int) = D.int IntKind.i64 (↑s.size : Int) ∧ D.int IntKind.i64 (↑s' : Int) = D.int IntKind.i64 ((↑i : Int) + (1 : Int)))) ∧ (decide ((↑b.toNat : Int) < (48 : Int)) = false → (decide ((57 : Int) < (↑b.toNat : Int)) = true → (decide ((↑b.toNat : Int) ≠ (45 : Int)) = true → (decide ((↑b.toNat : Int) ≠ (46 : Int)) = true → ∃ (a : Unit), (List.drop i (bs s)).all okCh = false ∧ D.bool false = D.bool false) ∧ (decide ((↑b.toNat : Int) ≠ (46 : Int)) = false → inK IntKind.i64 ((↑i : Int) + (1 : Int)) ∧ ∃ (s' : Nat), (s' ≤ s.size ∧ s.size ≤ (9223372036854775807 : Nat)) ∧ (s.size - s').succ ≤ s.size - i ∧ (List.drop s' (bs s)).all okCh = (List.drop i (bs s)).all okCh ∧ D.str s = D.str s ∧ D.int IntKind.i64 (↑s.size : Int) = D.int IntKind.i64 (↑s.size : Int) ∧ D.int IntKind.i64 (↑s' : Int) = D.int IntKind.i64 ((↑i : Int) + (1 : Int)))) ∧ (decide ((↑b.toNat : Int) ≠ (45 : Int)) = false → inK IntKind.i64 ((↑i : Int) + (1 : Int)) ∧ ∃ (s' : Nat), (s' ≤ s.size ∧ s.size ≤ (9223372036854775807 : Nat)) ∧ (s.size - s').succ ≤ s.size - i ∧ (List.drop s' (bs s)).all okCh = (List.drop i (bs s)).all okCh ∧ D.str s = D.str s ∧ D.int IntKind.i64 (↑s.size : Int) = D.int IntKind.i64 (↑s.size : Int) ∧ D.int IntKind.i64 (↑s' : Int) = D.int IntKind.i64 ((↑i : Int) + (1 : Int)))) ∧ (decide ((57 : Int) < (↑b.toNat : Int)) = false → inK IntKind.i64 ((↑i : Int) + (1 : Int)) ∧ ∃ (s' : Nat), (s' ≤ s.size ∧ s.size ≤ (9223372036854775807 : Nat)) ∧ (s.size - s').succ ≤ s.size - i ∧ (List.drop s' (bs s)).all okCh = (List.drop i (bs s)).all okCh ∧ D.str s = D.str s ∧ D.int IntKind.i64 (↑s.size : Int) = D.int IntKind.i64 (↑s.size : Int) ∧ D.int IntKind.i64 (↑s' : Int) = D.int IntKind.i64 ((↑i : Int) + (1 : Int))))) ∧ (decide ((↑b.toNat : Int) < (97 : Int)) = false → (decide ((122 : Int) < (↑b.toNat : Int)) = true → (decide ((↑b.toNat : Int) < (48 : Int)) = true → (decide ((↑b.toNat : Int) ≠ (45 : Int)) = true → (decide ((↑b.toNat : Int) ≠ (46 : Int)) = true → ∃ (a : Unit), (List.drop i (bs s)).all okCh = false ∧ D.bool false = D.bool false) ∧ (decide ((↑b.toNat : Int) ≠ (46 : Int)) = false → inK IntKind.i64 ((↑i : Int) + (1 : Int)) ∧ ∃ (s' : Nat), (s' ≤ s.size ∧ s.size ≤ (9223372036854775807 : Nat)) ∧ (s.size - s').succ ≤ s.size - i ∧ (List.drop s' (bs s)).all okCh = (List.drop i (bs s)).all okCh ∧ D.str s = D.str s ∧ D.int IntKind.i64 (↑s.size : Int) = D.int IntKind.i64 (↑s.size : Int) ∧ D.int IntKind.i64 (↑s' : Int) = D.int IntKind.i64 ((↑i : Int) + (1 : Int)))) ∧ (decide ((↑b.toNat : Int) ≠ (45 : Int)) = false → inK IntKind.i64 ((↑i : Int) + (1 : Int)) ∧ ∃ (s' : Nat), (s' ≤ s.size ∧ s.size ≤ (9223372036854775807 : Nat)) ∧ (s.size - s').succ ≤ s.size - i ∧ (List.drop s' (bs s)).all okCh = (List.drop i (bs s)).all okCh ∧ D.str s = D.str s ∧ D.int IntKind.i64 (↑s.size : Int) = D.int IntKind.i64 (↑s.size : Int) ∧ D.int IntKind.i64 (↑s' : Int) = D.int IntKind.i64 ((↑i : Int) + (1 : Int)))) ∧ (decide ((↑b.toNat : Int) < (48 : Int)) = false → (decide ((57 : Int) < (↑b.toNat : Int)) = true → (decide ((↑b.toNat : Int) ≠ (45 : Int)) = true → (decide ((↑b.toNat : Int) ≠ (46 : Int)) = true → ∃ (a : Unit), (List.drop i (bs s)).all okCh = false ∧ D.bool false = D.bool false) ∧ (decide ((↑b.toNat : Int) ≠ (46 : Int)) = false → inK IntKind.i64 ((↑i : Int) + (1 : Int)) ∧ ∃ (s' : Nat), (s' ≤ s.size ∧ s.size ≤ (9223372036854775807 : Nat)) ∧ (s.size - s').succ ≤ s.size - i ∧ (List.drop s' (bs s)).all okCh = (List.drop i (bs s)).all okCh ∧ D.str s = D.str s ∧ D.int IntKind.i64 (↑s.size : Int) = D.int IntKind.i64 (↑s.size : Int) ∧ D.int IntKind.i64 (↑s' : Int) = D.int IntKind.i64 ((↑i : Int) + (1 : Int)))) ∧ (decide ((↑b.toNat : Int) ≠ (45 : Int)) = false → inK IntKind.i64 ((↑i : Int) + (1 : Int)) ∧ ∃ (s' : Nat), (s' ≤ s.size ∧ s.size ≤ (9223372036854775807 : Nat)) ∧ (s.size - s').succ ≤ s.size - i ∧ (List.drop s' (bs s)).all okCh = (List.drop i (bs s)).all okCh ∧ D.str s = D.str s ∧ D.int IntKind.i64 (↑s.size : Int) = D.int IntKind.i64 (↑s.size : Int) ∧ D.int IntKind.i64 (↑s' : Int) = D.int IntKind.i64 ((↑i : Int) + (1 : Int)))) ∧ (decide ((57 : Int) < (↑b.toNat : Int)) = false → inK IntKind.i64 ((↑i : Int) + (1 : Int)) ∧ ∃ (s' : Nat), (s' ≤ s.size ∧ s.size ≤ (9223372036854775807 : Nat)) ∧ (s.size - s').succ ≤ s.size - i ∧ (List.drop s' (bs s)).all okCh = (List.drop i (bs s)).all okCh ∧ D.str s = D.str s ∧ D.int IntKind.i64 (↑s.size : Int) = D.int IntKind.i64 (↑s.size : Int) ∧ D.int IntKind.i64 (↑s' : Int) = D.int IntKind.i64 ((↑i : Int) + (1 : Int))))) ∧ (decide ((122 : Int) < (↑b.toNat : Int)) = false → inK IntKind.i64 ((↑i : Int) + (1 : Int)) ∧ ∃ (s' : Nat), (s' ≤ s.size ∧ s.size ≤ (9223372036854775807 : Nat)) ∧ (s.size - s').succ ≤ s.size - i ∧ (List.drop s' (bs s)).all okCh = (List.drop i (bs s)).all okCh ∧ D.str s = D.str s ∧ D.int IntKind.i64 (↑s.size : Int) = D.int IntKind.i64 (↑s.size : Int) ∧ D.int IntKind.i64 (↑s' : Int) = D.int IntKind.i64 ((↑i : Int) + (1 : Int))))) (by kernel_rfl) ?_
    obtain ⟨b, hb⟩ : ∃ b, (bs s)[i]? = some b := ⟨_, List.getElem?_eq_getElem (by rw [bs_len]; exact h)⟩
    have hm := drop_all hb
    refine ⟨by simpa using h, b, by omega, by rw [Int.toNat_natCast, bs_get]; exact hb, ?_⟩
    rw [hm]
    have go : okCh b = true → ∃ s' : Nat, (s' ≤ s.size ∧ s.size ≤ 9223372036854775807) ∧ (s.size - s').succ ≤ s.size - i ∧ ((bs s).drop s').all okCh = (okCh b && ((bs s).drop (i + 1)).all okCh) ∧ True ∧ True ∧ D.int .i64 (s' : Int) = D.int .i64 ((i : Int) + 1) := by
      intro ho
      exact ⟨i + 1, ⟨by omega, h2⟩, by omega, by rw [ho, Bool.true_and], trivial, trivial, by simp⟩
    simp only [decide_eq_true_eq, decide_eq_false_iff_not, inK]
    have hb' := b.toNat_lt
    have ocT : ((97 ≤ b.toNat ∧ b.toNat ≤ 122) ∨ (48 ≤ b.toNat ∧ b.toNat ≤ 57) ∨ b.toNat = 45 ∨ b.toNat = 46) → okCh b = true := fun h => decide_eq_true h
    have ocF : ¬((97 ≤ b.toNat ∧ b.toNat ≤ 122) ∨ (48 ≤ b.toNat ∧ b.toNat ≤ 57) ∨ b.toNat = 45 ∨ b.toNat = 46) → okCh b = false := fun h => decide_eq_false h
    repeat' (first | (intro _) | (apply And.intro))
    all_goals first
      | omega
      | exact go (ocT (by omega))
      | exact ⟨(), by rw [ocF (by omega)]; rfl, trivial⟩
  · refine round0 (C := cfgH [] [(20, .f)]) (ctrs_ok [] rfl rfl) (by kernel_rfl) (by kernel_rfl) (q := decide ((↑i : Int) < (↑s.size : Int)) = false ∧ ∃ (a : Unit), (List.drop i (bs s)).all okCh = true ∧ True) (by kernel_rfl) ?_
    exact ⟨by simpa using h, (), by rw [List.drop_of_length_le (by rw [bs_len]; exact h)]; rfl, trivial⟩
def wordCfg (s : ByteArray) : WCfg := { cfgOf [] with loops := fun k => match k with | 4 => some ((wordL s).row []) | _ => none }
theorem wordN {s : ByteArray} (h : s.size ≤ 9223372036854775807) : (decide ((↑s.size : Int) < (1 : Int)) = true → D.bool false = D.bool (nameB s)) ∧ (decide ((↑s.size : Int) < (1 : Int)) = false → (decide ((12 : Int) < (↑s.size : Int)) = true → D.bool false = D.bool (nameB s)) ∧ (decide ((12 : Int) < (↑s.size : Int)) = false → (decide (s = dash) = true → D.bool false = D.bool (nameB s)) ∧ (decide (s = dash) = false → ∃ (b : Nat), (b ≤ s.size ∧ s.size ≤ (9223372036854775807 : Nat)) ∧ (D.str s = D.str s ∧ D.int IntKind.i64 (↑s.size : Int) = D.int IntKind.i64 (↑s.size : Int) ∧ D.int IntKind.i64 (↑b : Int) = D.int IntKind.i64 (0 : Int)) ∧ (∀ (a : Unit), (List.drop b (bs s)).all okCh = true → D.bool true = D.bool (nameB s)) ∧ ∀ (a : Unit), (List.drop b (bs s)).all okCh = false → D.bool false = D.bool (nameB s)))) := by
  unfold nameB
  refine ⟨fun h1 => ?_, fun h1 => ⟨fun h2 => ?_, fun h2 => ⟨fun h3 => ?_, fun h3 => ?_⟩⟩⟩
  · rw [decide_eq_true_eq] at h1; congr 1; symm; rw [Bool.and_eq_false_iff]; exact .inr (decide_eq_false (by omega))
  · rw [decide_eq_true_eq] at h2; congr 1; symm; rw [Bool.and_eq_false_iff]; exact .inr (decide_eq_false (by omega))
  · rw [decide_eq_true_eq] at h3; congr 1; symm; rw [Bool.and_eq_false_iff]; exact .inr (decide_eq_false (by rintro ⟨_, _, hh⟩; exact hh h3))
  · rw [decide_eq_false_iff_not] at h1 h2 h3
    refine ⟨0, ⟨by omega, h⟩, ⟨rfl, rfl, rfl⟩, fun _ hm => ?_, fun _ hm => ?_⟩
    · rw [List.drop_zero] at hm
      rw [hm, Bool.true_and]
      congr 1; symm; exact decide_eq_true ⟨by omega, by omega, h3⟩
    · rw [List.drop_zero] at hm
      rw [hm]; rfl
def nameS : List D → Option DOut := fun vs => match vs with | [.str s] => some ⟨s.size ≤ 9223372036854775807, .bool (nameB s)⟩ | _ => none
def wordC : Ctr := ⟨19, nameS, by
  intro vs o ho hp
  unfold nameS at ho
  split at ho
  · rename_i s
    injection ho with ho; subst ho
    refine dataFunL (C := wordCfg s) (ctrs_ok [] rfl rfl) rfl Tryd.func19 (by kernel_rfl) (l := [lp Tryd.f19 4]) (by kernel_rfl) ?_ (by kernel_rfl) (by kernel_rfl) (by kernel_rfl) (wordN hp)
    intro x hx
    rw [List.mem_singleton.1 hx]
    exact (wordL s).fits 4 [] (by kernel_rfl) rfl (wordR s)
  · cases ho⟩
/-! ### pairs of words -/
def subB (m : List (ByteArray × ByteArray)) : Bool := m.all fun p => nameB p.1 && nameB p.2
def sbL (f : Bool) (l : List (ByteArray × ByteArray)) : WLoop :=
  { St := List (ByteArray × ByteArray) × List (ByteArray × ByteArray)
    O := Bool
    T := fun s => [(0, .sl f (l.map pairQ)), (5, .sl f (l.map pairQ)), (6, .int .i64 (l.map pairQ).length), (7, .int .i64 s.1.length)]
    ok := fun s => s.1 ++ s.2 = l ∧ l.length ≤ 4398046511104 ∧ ∀ p ∈ l, p.1.size ≤ 140737488355328 ∧ p.2.size ≤ 140737488355328
    μ := fun s => s.2.length
    m := fun s => subB s.2
    outs := [{ α := Unit, is := fun o _ => o = true, ex := .exit 0, T := fun _ => [(0, .sl f (l.map pairQ))] }, { α := Unit, is := fun o _ => o = false, ex := .ret, T := fun _ => [(2, .bool false)] }] }
theorem sbR (f : Bool) (l : List (ByteArray × ByteArray)) (s : (sbL f l).St) (hs : (sbL f l).ok s) : Tri Tryd.prog 0 25 (lp Tryd.f20 2) (tb ((sbL f l).T s)) ((sbL f l).S s) ((sbL f l).q 0 s) := by
  obtain ⟨a, r⟩ := s
  obtain ⟨h1, h2, h3⟩ := hs
  simp only at h1 h2
  subst h1
  cases r with
  | nil =>
    refine round0 (C := gCf 0 [] [] [(8, .f)]) (ctrs_ok ([]) rfl rfl) (by kernel_rfl) (by kernel_rfl) (q := decide ((↑a.length : Int) < (↑(List.map pairQ (a ++ [])).length : Int)) = false ∧ ∃ (a_1 : Unit), true = true ∧ D.sl f (List.map pairQ (a ++ [])) = D.sl f (List.map pairQ (a ++ []))) (by kernel_rfl) ?_
    have hA : (List.map pairQ (a ++ [])).length = a.length := by simp
    exact ⟨decide_eq_false (by omega), (), rfl, rfl⟩
  | cons x r =>
    refine round0 (C := gCf 0 [wordC] [] [(8, .t)]) (ctrs_ok ([wordC]) rfl rfl) (by kernel_rfl) (by kernel_rfl) (q := decide ((↑a.length : Int) < (↑(List.map pairQ (a ++ x :: r)).length : Int)) = true ∧ ∃ (y : ByteArray × ByteArray), (0 : Int) ≤ (↑a.length : Int) ∧ (List.map pairQ (a ++ x :: r))[(↑a.length : Int).toNat]? = some (D.agg [D.str y.fst, D.str y.snd]) ∧ y.fst.size ≤ (9223372036854775807 : Nat) ∧ ((!nameB y.fst) = true → ∃ (a : Unit), subB (x :: r) = false ∧ D.bool false = D.bool false) ∧ ((!nameB y.fst) = false → y.snd.size ≤ (9223372036854775807 : Nat) ∧ ((!nameB y.snd) = true → ∃ (a : Unit), subB (x :: r) = false ∧ D.bool false = D.bool false) ∧ ((!nameB y.snd) = false → inK IntKind.i64 ((↑a.length : Int) + (1 : Int)) ∧ ∃ (s' : List (ByteArray × ByteArray) × List (ByteArray × ByteArray)), (s'.fst ++ s'.snd = a ++ x :: r ∧ (a ++ x :: r).length ≤ (4398046511104 : Nat) ∧ ∀ (p : ByteArray × ByteArray), List.Mem p (a ++ x :: r) → p.fst.size ≤ (140737488355328 : Nat) ∧ p.snd.size ≤ (140737488355328 : Nat)) ∧ s'.snd.length.succ ≤ (x :: r).length ∧ subB s'.snd = subB (x :: r) ∧ D.sl f (List.map pairQ (a ++ x :: r)) = D.sl f (List.map pairQ (a ++ x :: r)) ∧ D.sl f (List.map pairQ (a ++ x :: r)) = D.sl f (List.map pairQ (a ++ x :: r)) ∧ D.int IntKind.i64 (↑(List.map pairQ (a ++ x :: r)).length : Int) = D.int IntKind.i64 (↑(List.map pairQ (a ++ x :: r)).length : Int) ∧ D.int IntKind.i64 (↑s'.fst.length : Int) = D.int IntKind.i64 ((↑a.length : Int) + (1 : Int))))) (by kernel_rfl) ?_
    have hA : (List.map pairQ (a ++ x :: r)).length = a.length + (r.length + 1) := by simp
    have h2' : a.length + (r.length + 1) ≤ 4398046511104 := by rw [← hA, List.length_map]; exact h2
    have hx := h3 x (by simp)
    have e1 : subB (x :: r) = (nameB x.1 && nameB x.2 && subB r) := by unfold subB; rw [List.all_cons]
    refine ⟨decide_eq_true (by omega), x, by omega, get_midI pairQ a x r, by omega, fun h => ⟨(), ?_, rfl⟩, fun h => ⟨by omega, fun h4 => ⟨(), ?_, rfl⟩, fun h4 => ⟨inkQ (by omega), (a ++ [x], r), ⟨by simp, h2, h3⟩, Nat.le_refl _, ?_, rfl, rfl, rfl, by simp⟩⟩⟩
    · rw [e1, (Bool.not_eq_true' _).mp h]; rfl
    · rw [e1, (Bool.not_eq_true' _).mp h4, Bool.and_false]; rfl
    · rw [e1, (Bool.not_eq_false' _).mp h, (Bool.not_eq_false' _).mp h4]; rfl
def sbCf (f : Bool) (l : List (ByteArray × ByteArray)) : WCfg := { gCf 0 [] [] [] with loops := fun k => match k with | 2 => some ((sbL f l).row []) | _ => none }
theorem sbN (f : Bool) (l : List (ByteArray × ByteArray)) (h1 : l.length ≤ 4398046511104) (h2 : ∀ p ∈ l, p.1.size ≤ 140737488355328 ∧ p.2.size ≤ 140737488355328) : ∃ (b : List (ByteArray × ByteArray) × List (ByteArray × ByteArray)), (b.fst ++ b.snd = l ∧ l.length ≤ (4398046511104 : Nat) ∧ ∀ (p : ByteArray × ByteArray), List.Mem p l → p.fst.size ≤ (140737488355328 : Nat) ∧ p.snd.size ≤ (140737488355328 : Nat)) ∧ (D.sl f (List.map pairQ l) = D.sl f (List.map pairQ l) ∧ D.sl f (List.map pairQ l) = D.sl f (List.map pairQ l) ∧ D.int IntKind.i64 (↑(List.map pairQ l).length : Int) = D.int IntKind.i64 (↑(List.map pairQ l).length : Int) ∧ D.int IntKind.i64 (↑b.fst.length : Int) = D.int IntKind.i64 (0 : Int)) ∧ (∀ (a : Unit), subB b.snd = true → D.bool (decide ((↑(List.map pairQ l).length : Int) ≤ (6 : Int))) = D.bool (subB l && decide ((↑l.length : Int) ≤ (6 : Int)))) ∧ ∀ (a : Unit), subB b.snd = false → D.bool false = D.bool (subB l && decide ((↑l.length : Int) ≤ (6 : Int))) := by
  rw [List.length_map]
  refine ⟨([], l), ⟨rfl, h1, h2⟩, ⟨rfl, rfl, rfl, rfl⟩, fun _ h => ?_, fun _ h => ?_⟩
  · rw [show subB l = true from h]; rfl
  · rw [show subB l = false from h]; rfl
def sbS (vs : List D) : Option DOut := match vs with | [.sl f xs] => some ⟨∃ l : List (ByteArray × ByteArray), xs = l.map pairQ ∧ l.length ≤ 4398046511104 ∧ ∀ p ∈ l, p.1.size ≤ 140737488355328 ∧ p.2.size ≤ 140737488355328, .bool (subB (xs.map dPairQ) && decide ((xs.length : Int) ≤ 6))⟩ | _ => none
def sbC : Ctr := ⟨20, sbS, by
  intro vs o ho hp
  unfold sbS at ho
  split at ho
  · rename_i f xs
    injection ho with ho; subst ho
    obtain ⟨l, rfl, h1, h2⟩ := hp
    simp only
    rw [map_dPairQ, List.length_map]
    exact dataFunL (C := sbCf f l) (ctrs_ok [] rfl rfl) rfl Tryd.func20 (by kernel_rfl) (l := [lp Tryd.f20 2]) (by kernel_rfl) (fun x hx => by rw [List.mem_singleton.1 hx]; exact (sbL f l).fits 2 [] (by kernel_rfl) rfl (sbR f l)) (by kernel_rfl) rfl (by kernel_rfl) (sbN f l h1 h2)
  · cases ho⟩
/-! ### MayHost -/
def leS' (a b : ByteArray) : Bool := Op.bytesLess a.data.toList b.data.toList || decide (a = b)
def incB : List (ByteArray × ByteArray) → Bool
  | [] => true
  | [_] => true
  | x :: y :: r => !leS' y.1 x.1 && incB (y :: r)
def mhL (h : Hst) : WLoop :=
  { St := Nat
    O := Bool
    T := fun i => [(1, .ptr 0 0 0), (3, .int .i64 (i + 1 : Nat))]
    S := fun i => [some (.row .own 6 [hstD h])]
    ok := fun i => h.mt.length ≤ 4398046511104
    μ := fun i => h.mt.length - i
    m := fun i => incB (h.mt.drop i)
    src := [(0, true)]
    outs := [{ α := Unit, is := fun o _ => o = true, ex := .exit 0, T := fun _ => [] }, { α := Unit, is := fun o _ => o = false, ex := .ret, T := fun _ => [(2, .bool false)] }] }
theorem mhR (h : Hst) (i : Nat) (hs : (mhL h).ok i) : Tri Tryd.prog 0 76 (lp Tryd.f9 4) (tb ((mhL h).T i)) ((mhL h).S i) ((mhL h).q 0 i) := by
  have h2 : h.mt.length ≤ 4398046511104 := hs
  have hA : (List.map pairQ h.mt).length = h.mt.length := List.length_map ..
  rcases Nat.lt_or_ge (i + 1) h.mt.length with hi | hi
  · obtain ⟨x, y, r, hd⟩ : ∃ x y r, h.mt.drop i = x :: y :: r := by
      have hl : (h.mt.drop i).length = h.mt.length - i := List.length_drop
      match e : h.mt.drop i with
      | [] => rw [e] at hl; simp at hl; omega
      | [_] => rw [e] at hl; simp at hl; omega
      | x :: y :: r => exact ⟨x, y, r, rfl⟩
    have g0 : ∀ k, h.mt[i + k]? = (x :: y :: r)[k]? := fun k => by rw [← hd, List.getElem?_drop]
    have gx : (List.map pairQ h.mt)[(((i + 1 : Nat) : Int) - 1).toNat]? = some (pairQ x) := by
      rw [show ((((i + 1 : Nat) : Int) - 1)).toNat = i + 0 by omega, List.getElem?_map, g0 0]; rfl
    have gy : (List.map pairQ h.mt)[(((i + 1 : Nat) : Int)).toNat]? = some (pairQ y) := by
      rw [show ((((i + 1 : Nat) : Int))).toNat = i + 1 by omega, List.getElem?_map, g0 1]; rfl
    have hd2 : h.mt.drop (i + 1) = y :: r := by rw [← List.drop_drop, hd]; rfl
    have e1 : incB (h.mt.drop i) = (!leS' y.1 x.1 && incB (h.mt.drop (i + 1))) := by rw [hd, hd2]; rfl
    refine round0 (C := gCf 0 [] [] [(59, .t)]) (ctrs_ok ([]) rfl rfl) (by kernel_rfl) (by kernel_rfl) (q := decide ((↑(i + (1 : Nat)) : Int) < (↑(List.map pairQ h.mt).length : Int)) = true ∧ ∃ (y : ByteArray × ByteArray), (0 : Int) ≤ (↑(i + (1 : Nat)) : Int) ∧ (List.map pairQ h.mt)[(↑(i + (1 : Nat)) : Int).toNat]? = some (D.agg [D.str y.fst, D.str y.snd]) ∧ inK IntKind.i64 ((↑(i + (1 : Nat)) : Int) - (1 : Int)) ∧ ∃ (y_1 : ByteArray × ByteArray), (0 : Int) ≤ (↑(i + (1 : Nat)) : Int) - (1 : Int) ∧ (List.map pairQ h.mt)[((↑(i + (1 : Nat)) : Int) - (1 : Int)).toNat]? = some (D.agg [D.str y_1.fst, D.str y_1.snd]) ∧ ((Op.bytesLess y.fst.data.toList y_1.fst.data.toList || decide (y.fst = y_1.fst)) = true → ∃ (a : Unit), incB (List.drop i h.mt) = false ∧ D.bool false = D.bool false) ∧ ((Op.bytesLess y.fst.data.toList y_1.fst.data.toList || decide (y.fst = y_1.fst)) = false → inK IntKind.i64 ((↑(i + (1 : Nat)) : Int) + (1 : Int)) ∧ ∃ (s' : Nat), h.mt.length ≤ (4398046511104 : Nat) ∧ (h.mt.length - s').succ ≤ h.mt.length - i ∧ incB (List.drop s' h.mt) = incB (List.drop i h.mt) ∧ (D.ptr (0 : Nat) (0 : Nat) (0 : Nat) = D.ptr (0 : Nat) (0 : Nat) (0 : Nat) ∧ D.int IntKind.i64 (↑(s' + (1 : Nat)) : Int) = D.int IntKind.i64 ((↑(i + (1 : Nat)) : Int) + (1 : Int))) ∧ (some (Ob.row St.own (6 : Nat) [D.agg [D.int IntKind.i64 h.id, D.str h.addr, D.int IntKind.i64 h.prio, D.str h.zone, D.int IntKind.i64 h.w, D.sl h.f (List.map pairQ h.mt)]]) = none ∨ some (Ob.row St.own (6 : Nat) [D.agg [D.int IntKind.i64 h.id, D.str h.addr, D.int IntKind.i64 h.prio, D.str h.zone, D.int IntKind.i64 h.w, D.sl h.f (List.map pairQ h.mt)]]) = some (Ob.row St.own (6 : Nat) [D.agg [D.int IntKind.i64 h.id, D.str h.addr, D.int IntKind.i64 h.prio, D.str h.zone, D.int IntKind.i64 h.w, D.sl h.f (List.map pairQ h.mt)]]) ∧ true = true))) (by kernel_rfl) ?_
    refine ⟨decide_eq_true (by omega), y, by omega, gy, inkQ (by omega), x, by omega, gx, fun h => ⟨(), ?_, rfl⟩, fun h' => ⟨inkQ (by omega), i + 1, h2, by omega, ?_, ⟨rfl, by simp⟩, .inr ⟨rfl, rfl⟩⟩⟩
    · rw [e1, show leS' y.1 x.1 = true from h]; rfl
    · rw [e1, show leS' y.1 x.1 = false from h']; rfl
  · have e1 : incB (h.mt.drop i) = true := by
      have hl : (h.mt.drop i).length = h.mt.length - i := List.length_drop
      match e : h.mt.drop i with
      | [] => rfl
      | [_] => rfl
      | x :: y :: r => rw [e] at hl; simp at hl; omega
    refine round0 (C := gCf 0 [] [] [(59, .f)]) (ctrs_ok ([]) rfl rfl) (by kernel_rfl) (by kernel_rfl) (q := decide ((↑(i + (1 : Nat)) : Int) < (↑(List.map pairQ h.mt).length : Int)) = false ∧ ∃ (a : Unit), incB (List.drop i h.mt) = true ∧ True) (by kernel_rfl) ?_
    exact ⟨decide_eq_false (by omega), (), e1, trivial⟩
def mayH (h : Hst) : Bool := decide (1 ≤ h.id ∧ h.id ≤ 1000000) && nameB h.addr && (decide (h.zone = .empty) || nameB h.zone) && decide (0 ≤ h.prio ∧ h.prio ≤ 3) && decide (1 ≤ h.w ∧ h.w ≤ 20) && (subB h.mt && decide ((h.mt.length : Int) ≤ 6)) && incB h.mt
theorem mayH_iff (h : Hst) : mayH h = true ↔ (1 ≤ h.id ∧ h.id ≤ 1000000) ∧ nameB h.addr = true ∧ (h.zone = .empty ∨ nameB h.zone = true) ∧ (0 ≤ h.prio ∧ h.prio ≤ 3) ∧ (1 ≤ h.w ∧ h.w ≤ 20) ∧ (subB h.mt && decide ((h.mt.length : Int) ≤ 6)) = true ∧ incB h.mt = true := by
  unfold mayH
  rw [Bool.and_eq_true, Bool.and_eq_true, Bool.and_eq_true, Bool.and_eq_true, Bool.and_eq_true, Bool.and_eq_true, Bool.or_eq_true, decide_eq_true_eq, decide_eq_true_eq, decide_eq_true_eq, decide_eq_true_eq]
  simp only [and_assoc]
theorem bF (h : Hst) (hm : mayH h = true → False) : D.bool false = D.bool (mayH h) := by
  cases e : mayH h with
  | true => exact (hm e).elim
  | false => rfl
def mhCf (h : Hst) : WCfg := { gCf 0 [wordC, sbC] [] [] with loops := fun k => match k with | 4 => some ((mhL h).row [(0, true)]) | _ => none }
theorem mhN (h : Hst) (hs : h.small) : (decide (h.id < (1 : Int)) = true → D.bool false = D.bool (mayH h)) ∧ (decide (h.id < (1 : Int)) = false → (decide ((1000000 : Int) < h.id) = true → D.bool false = D.bool (mayH h)) ∧ (decide ((1000000 : Int) < h.id) = false → h.addr.size ≤ (9223372036854775807 : Nat) ∧ ((!nameB h.addr) = true → D.bool false = D.bool (mayH h)) ∧ ((!nameB h.addr) = false → (decide (h.zone ≠ ByteArray.empty) = true → h.zone.size ≤ (9223372036854775807 : Nat) ∧ ((!nameB h.zone) = true → D.bool false = D.bool (mayH h)) ∧ ((!nameB h.zone) = false → (decide (h.prio < (0 : Int)) = true → D.bool false = D.bool (mayH h)) ∧ (decide (h.prio < (0 : Int)) = false → (decide ((3 : Int) < h.prio) = true → D.bool false = D.bool (mayH h)) ∧ (decide ((3 : Int) < h.prio) = false → (decide (h.w < (1 : Int)) = true → D.bool false = D.bool (mayH h)) ∧ (decide (h.w < (1 : Int)) = false → (decide ((20 : Int) < h.w) = true → D.bool false = D.bool (mayH h)) ∧ (decide ((20 : Int) < h.w) = false → (∃ (l : List (ByteArray × ByteArray)), List.map pairQ h.mt = List.map pairQ l ∧ l.length ≤ (4398046511104 : Nat) ∧ ∀ (p : ByteArray × ByteArray), List.Mem p l → p.fst.size ≤ (140737488355328 : Nat) ∧ p.snd.size ≤ (140737488355328 : Nat)) ∧ ((!(subB (List.map dPairQ (List.map pairQ h.mt)) && decide ((↑(List.map pairQ h.mt).length : Int) ≤ (6 : Int)))) = true → D.bool false = D.bool (mayH h)) ∧ ((!(subB (List.map dPairQ (List.map pairQ h.mt)) && decide ((↑(List.map pairQ h.mt).length : Int) ≤ (6 : Int)))) = false → ∃ (b : Nat), h.mt.length ≤ (4398046511104 : Nat) ∧ ((D.ptr (0 : Nat) (0 : Nat) (0 : Nat) = D.ptr (0 : Nat) (0 : Nat) (0 : Nat) ∧ D.int IntKind.i64 (↑(b + (1 : Nat)) : Int) = D.int IntKind.i64 (1 : Int)) ∧ (some (Ob.row St.own (6 : Nat) [D.agg [D.int IntKind.i64 h.id, D.str h.addr, D.int IntKind.i64 h.prio, D.str h.zone, D.int IntKind.i64 h.w, D.sl h.f (List.map pairQ h.mt)]]) = none ∨ some (Ob.row St.own (6 : Nat) [D.agg [D.int IntKind.i64 h.id, D.str h.addr, D.int IntKind.i64 h.prio, D.str h.zone, D.int IntKind.i64 h.w, D.sl h.f (List.map pairQ h.mt)]]) = some (Ob.row St.own (6 : Nat) [D.agg [D.int IntKind.i64 h.id, D.str h.addr, D.int IntKind.i64 h.prio, D.str h.zone, D.int IntKind.i64 h.w, D.sl h.f (List.map pairQ h.mt)]]) ∧ true = true)) ∧ (∀ (a : Unit), incB (List.drop b h.mt) = true → D.bool true = D.bool (mayH h)) ∧ ∀ (a : Unit), incB (List.drop b h.mt) = false → D.bool false = D.bool (mayH h)))))))) ∧ (decide (h.zone ≠ ByteArray.empty) = false → (decide (h.prio < (0 : Int)) = true → D.bool false = D.bool (mayH h)) ∧ (decide (h.prio < (0 : Int)) = false → (decide ((3 : Int) < h.prio) = true → D.bool false = D.bool (mayH h)) ∧ (decide ((3 : Int) < h.prio) = false → (decide (h.w < (1 : Int)) = true → D.bool false = D.bool (mayH h)) ∧ (decide (h.w < (1 : Int)) = false → (decide ((20 : Int) < h.w) = true → D.bool false = D.bool (mayH h)) ∧ (decide ((20 : Int) < h.w) = false → (∃ (l : List (ByteArray × ByteArray)), List.map pairQ h.mt = List.map pairQ l ∧ l.length ≤ (4398046511104 : Nat) ∧ ∀ (p : ByteArray × ByteArray), List.Mem p l → p.fst.size ≤ (140737488355328 : Nat) ∧ p.snd.size ≤ (140737488355328 : Nat)) ∧ ((!(subB (List.map dPairQ (List.map pairQ h.mt)) && decide ((↑(List.map pairQ h.mt).length : Int) ≤ (6 : Int)))) = true → D.bool false = D.bool (mayH h)) ∧ ((!(subB (List.map dPairQ (List.map pairQ h.mt)) && decide ((↑(List.map pairQ h.mt).length : Int) ≤ (6 : Int)))) = false → ∃ (b : Nat), h.mt.length ≤ (4398046511104 : Nat) ∧ ((D.ptr (0 : Nat) (0 : Nat) (0 : Nat) = D.ptr (0 : Nat) (0 : Nat) (0 : Nat) ∧ D.int IntKind.i64 (↑(b + (1 : Nat)) : Int) = D.int IntKind.i64 (1 : Int)) ∧ (some (Ob.row St.own (6 : Nat) [D.agg [D.int IntKind.i64 h.id, D.str h.addr, D.int IntKind.i64 h.prio, D.str h.zone, D.int IntKind.i64 h.w, D.sl h.f (List.map pairQ h.mt)]]) = none ∨ some (Ob.row St.own (6 : Nat) [D.agg [D.int IntKind.i64 h.id, D.str h.addr, D.int IntKind.i64 h.prio, D.str h.zone, D.int IntKind.i64 h.w, D.sl h.f (List.map pairQ h.mt)]]) = some (Ob.row St.own (6 : Nat) [D.agg [D.int IntKind.i64 h.id, D.str h.addr, D.int IntKind.i64 h.prio, D.str h.zone, D.int IntKind.i64 h.w, D.sl h.f (List.map pairQ h.mt)]]) ∧ true = true)) ∧ (∀ (a : Unit), incB (List.drop b h.mt) = true → D.bool true = D.bool (mayH h)) ∧ ∀ (a : Unit), incB (List.drop b h.mt) = false → D.bool false = D.bool (mayH h)))))))))) := by
  rw [map_dPairQ, List.length_map]
  have ha : h.addr.size ≤ 9223372036854775807 := Nat.le_trans hs.1 (by decide)
  have hzs : h.zone.size ≤ 9223372036854775807 := Nat.le_trans hs.2.1 (by decide)
  refine ⟨fun t => bF h fun hm => by have := ((mayH_iff h).1 hm).1; have := of_decide_eq_true t; omega, fun t1 => ⟨fun t => bF h fun hm => by have := ((mayH_iff h).1 hm).1; have := of_decide_eq_true t; omega, fun t2 => ⟨ha, fun t => bF h fun hm => (by rw [((mayH_iff h).1 hm).2.1] at t; cases t), fun t3 => ⟨fun t4 => ⟨hzs, fun t => bF h fun hm => ?_, fun t5 => ?_⟩, fun t4 => ?_⟩⟩⟩⟩
  · rcases ((mayH_iff h).1 hm).2.2.1 with e | e
    · exact of_decide_eq_true t4 e
    · rw [e] at t; cases t
  · have hz : h.zone = .empty ∨ nameB h.zone = true := .inr (by simpa using t5)
    refine ⟨fun t => bF h fun hm => by have := ((mayH_iff h).1 hm).2.2.2.1; have := of_decide_eq_true t; omega, fun t6 => ⟨fun t => bF h fun hm => by have := ((mayH_iff h).1 hm).2.2.2.1; have := of_decide_eq_true t; omega, fun t7 => ⟨fun t => bF h fun hm => by have := ((mayH_iff h).1 hm).2.2.2.2.1; have := of_decide_eq_true t; omega, fun t8 => ⟨fun t => bF h fun hm => by have := ((mayH_iff h).1 hm).2.2.2.2.1; have := of_decide_eq_true t; omega, fun t9 => ⟨⟨h.mt, rfl, hs.2.2.1, hs.2.2.2⟩, fun t => bF h fun hm => (by rw [((mayH_iff h).1 hm).2.2.2.2.2.1] at t; cases t), fun t10 => ⟨0, hs.2.2.1, ⟨⟨rfl, rfl⟩, .inr ⟨rfl, rfl⟩⟩, fun _ t11 => ?_, fun _ t11 => bF h fun hm => by exact absurd ((mayH_iff h).1 hm).2.2.2.2.2.2 (by rw [show incB h.mt = false from t11]; simp)⟩⟩⟩⟩⟩⟩
    rw [(mayH_iff h).2 ⟨by have := of_decide_eq_false t1; have := of_decide_eq_false t2; omega, by simpa using t3, hz, by have := of_decide_eq_false t6; have := of_decide_eq_false t7; omega, by have := of_decide_eq_false t8; have := of_decide_eq_false t9; omega, by simpa using t10, t11⟩]
  · have hz : h.zone = .empty ∨ nameB h.zone = true := .inl (by simpa using t4)
    refine ⟨fun t => bF h fun hm => by have := ((mayH_iff h).1 hm).2.2.2.1; have := of_decide_eq_true t; omega, fun t6 => ⟨fun t => bF h fun hm => by have := ((mayH_iff h).1 hm).2.2.2.1; have := of_decide_eq_true t; omega, fun t7 => ⟨fun t => bF h fun hm => by have := ((mayH_iff h).1 hm).2.2.2.2.1; have := of_decide_eq_true t; omega, fun t8 => ⟨fun t => bF h fun hm => by have := ((mayH_iff h).1 hm).2.2.2.2.1; have := of_decide_eq_true t; omega, fun t9 => ⟨⟨h.mt, rfl, hs.2.2.1, hs.2.2.2⟩, fun t => bF h fun hm => (by rw [((mayH_iff h).1 hm).2.2.2.2.2.1] at t; cases t), fun t10 => ⟨0, hs.2.2.1, ⟨⟨rfl, rfl⟩, .inr ⟨rfl, rfl⟩⟩, fun _ t11 => ?_, fun _ t11 => bF h fun hm => by exact absurd ((mayH_iff h).1 hm).2.2.2.2.2.2 (by rw [show incB h.mt = false from t11]; simp)⟩⟩⟩⟩⟩⟩
    rw [(mayH_iff h).2 ⟨by have := of_decide_eq_false t1; have := of_decide_eq_false t2; omega, by simpa using t3, hz, by have := of_decide_eq_false t6; have := of_decide_eq_false t7; omega, by have := of_decide_eq_false t8; have := of_decide_eq_false t9; omega, by simpa using t10, t11⟩]
def mhS (vs : List D) : Option DOut := match vs with | [.agg [.int .i64 a, .str addr, .int .i64 b, .str zone, .int .i64 c, .sl f xs]] => some ⟨∃ h : Hst, h.small ∧ .agg [.int .i64 a, .str addr, .int .i64 b, .str zone, .int .i64 c, .sl f xs] = hstD h, .bool (mayH (dHst (.agg [.int .i64 a, .str addr, .int .i64 b, .str zone, .int .i64 c, .sl f xs])))⟩ | _ => none
def mhC : Ctr := ⟨9, mhS, by
  intro vs o ho hp
  unfold mhS at ho
  split at ho
  · injection ho with ho; subst ho
    obtain ⟨h, hs, he⟩ := hp
    simp only
    rw [he, dHst_hstD]
    exact dataFunL (C := mhCf h) (ctrs_ok [wordC, sbC] rfl rfl) rfl Tryd.func9 (by kernel_rfl) (l := [lp Tryd.f9 4]) (by kernel_rfl) (fun x hx => by rw [List.mem_singleton.1 hx]; exact (mhL h).fits 4 [(0, true)] (by kernel_rfl) rfl (mhR h)) (by kernel_rfl) rfl (by kernel_rfl) (mhN h hs)
  · cases ho⟩
/-! ### FindHost -/
def fhL (f : Bool) (l : List Hst) (n : Int) : WLoop :=
  { St := List Hst × List Hst
    O := Int
    T := fun s => [(1, .int .i64 n), (7, .sl f (l.map hstD)), (8, .int .i64 (l.map hstD).length), (9, .int .i64 s.1.length)]
    ok := fun s => s.1 ++ s.2 = l ∧ l.length ≤ 4398046511104
    μ := fun s => s.2.length
    m := fun s => ixV n (s.2.map (·.id)) s.1.length
    outs := [{ α := Unit, is := fun o _ => o = -1, ex := .exit 0, T := fun _ => [] }, { α := Int, is := fun o k => o = k, ex := .ret, T := fun k => [(4, .int .i64 k)] }] }
theorem fhR (f : Bool) (l : List Hst) (n : Int) (s : (fhL f l n).St) (hs : (fhL f l n).ok s) : Tri Tryd.prog 0 20 (lp Tryd.f12 2) (tb ((fhL f l n).T s)) ((fhL f l n).S s) ((fhL f l n).q 0 s) := by
  obtain ⟨a, r⟩ := s
  obtain ⟨h1, h2⟩ := hs
  simp only at h1 h2
  subst h1
  cases r with
  | nil =>
    refine round0 (C := gCf 0 [] [] [(10, .f)]) (ctrs_ok ([]) rfl rfl) (by kernel_rfl) (by kernel_rfl) (q := decide ((↑a.length : Int) < (↑(List.map hstD (a ++ [])).length : Int)) = false ∧ ∃ (a : Unit), Int.negSucc (0 : Nat) = (-1 : Int) ∧ True) (by kernel_rfl) ?_
    have hA : (List.map hstD (a ++ [])).length = a.length := by simp
    exact ⟨decide_eq_false (by omega), (), rfl, trivial⟩
  | cons x r =>
    refine round0 (C := gCf 0 [] [] [(10, .t)]) (ctrs_ok ([]) rfl rfl) (by kernel_rfl) (by kernel_rfl) (q := decide ((↑a.length : Int) < (↑(List.map hstD (a ++ x :: r)).length : Int)) = true ∧ ∃ (y : Hst), (0 : Int) ≤ (↑a.length : Int) ∧ (List.map hstD (a ++ x :: r))[(↑a.length : Int).toNat]? = some (D.agg [D.int IntKind.i64 y.id, D.str y.addr, D.int IntKind.i64 y.prio, D.str y.zone, D.int IntKind.i64 y.w, D.sl y.f (List.map pairQ y.mt)]) ∧ (decide (y.id = n) = true → ∃ (a_2 : Int), ixV n (List.map (fun (x : Hst) => x.id) (x :: r)) (↑a.length : Int) = a_2 ∧ D.int IntKind.i64 a_2 = D.int IntKind.i64 (↑a.length : Int)) ∧ (decide (y.id = n) = false → inK IntKind.i64 ((↑a.length : Int) + (1 : Int)) ∧ ∃ (s' : List Hst × List Hst), (s'.fst ++ s'.snd = a ++ x :: r ∧ (a ++ x :: r).length ≤ (4398046511104 : Nat)) ∧ s'.snd.length.succ ≤ (x :: r).length ∧ ixV n (List.map (fun (x : Hst) => x.id) s'.snd) (↑s'.fst.length : Int) = ixV n (List.map (fun (x : Hst) => x.id) (x :: r)) (↑a.length : Int) ∧ D.int IntKind.i64 n = D.int IntKind.i64 n ∧ D.sl f (List.map hstD (a ++ x :: r)) = D.sl f (List.map hstD (a ++ x :: r)) ∧ D.int IntKind.i64 (↑(List.map hstD (a ++ x :: r)).length : Int) = D.int IntKind.i64 (↑(List.map hstD (a ++ x :: r)).length : Int) ∧ D.int IntKind.i64 (↑s'.fst.length : Int) = D.int IntKind.i64 ((↑a.length : Int) + (1 : Int)))) (by kernel_rfl) ?_
    have hA : (List.map hstD (a ++ x :: r)).length = a.length + (r.length + 1) := by simp
    have h2' : a.length + (r.length + 1) ≤ 4398046511104 := by rw [← hA, List.length_map]; exact h2
    refine ⟨decide_eq_true (by omega), x, by omega, get_midI hstD a x r, fun h => ⟨a.length, ?_, rfl⟩, fun h => ⟨inkQ (by omega), (a ++ [x], r), ⟨by simp, h2⟩, Nat.le_refl _, ?_, rfl, rfl, rfl, by simp⟩⟩
    · rw [List.map_cons, ixV, if_pos (of_decide_eq_true h).symm]
    · have h := of_decide_eq_false h
      rw [show ixV n (List.map (fun x => x.id) (x :: r)) a.length = ixV n (List.map (fun x => x.id) r) (a.length + 1) by rw [List.map_cons, ixV, if_neg (fun e => h e.symm)]]
      simp
def fhCf (f : Bool) (l : List Hst) (n : Int) : WCfg := { gCf 0 [] [] [] with loops := fun k => match k with | 2 => some ((fhL f l n).row []) | _ => none }
theorem fhN (f : Bool) (l : List Hst) (n : Int) (h : l.length ≤ 4398046511104) : ∃ (b : List Hst × List Hst), (b.fst ++ b.snd = l ∧ l.length ≤ (4398046511104 : Nat)) ∧ (D.int IntKind.i64 n = D.int IntKind.i64 n ∧ D.sl f (List.map hstD l) = D.sl f (List.map hstD l) ∧ D.int IntKind.i64 (↑(List.map hstD l).length : Int) = D.int IntKind.i64 (↑(List.map hstD l).length : Int) ∧ D.int IntKind.i64 (↑b.fst.length : Int) = D.int IntKind.i64 (0 : Int)) ∧ (∀ (a : Unit), ixV n (List.map (fun (x : Hst) => x.id) b.snd) (↑b.fst.length : Int) = (-1 : Int) → D.int IntKind.i64 (-1 : Int) = D.int IntKind.i64 (ixV n (List.map (fun (x : Hst) => x.id) l) (0 : Int))) ∧ ∀ (a : Int), ixV n (List.map (fun (x : Hst) => x.id) b.snd) (↑b.fst.length : Int) = a → D.int IntKind.i64 a = D.int IntKind.i64 (ixV n (List.map (fun (x : Hst) => x.id) l) (0 : Int)) := by
  refine ⟨([], l), ⟨rfl, h⟩, ⟨rfl, rfl, rfl, rfl⟩, fun _ h => ?_, fun a h => ?_⟩
  · rw [show ixV n (l.map (·.id)) 0 = -1 from h]
  · rw [show ixV n (l.map (·.id)) 0 = a from h]
def fhS (vs : List D) : Option DOut := match vs with | [.sl f xs, .int .i64 n] => some ⟨∃ l : List Hst, xs = l.map hstD ∧ l.length ≤ 4398046511104, .int .i64 (ixV n ((xs.map dHst).map (·.id)) 0)⟩ | _ => none
def fhC : Ctr := ⟨12, fhS, by
  intro vs o ho hp
  unfold fhS at ho
  split at ho
  · rename_i f xs n
    injection ho with ho; subst ho
    obtain ⟨l, rfl, hl⟩ := hp
    simp only
    rw [map_dHst]
    exact dataFunL (C := fhCf f l n) (ctrs_ok [] rfl rfl) rfl Tryd.func12 (by kernel_rfl) (l := [lp Tryd.f12 2]) (by kernel_rfl) (fun x hx => by rw [List.mem_singleton.1 hx]; exact (fhL f l n).fits 2 [] (by kernel_rfl) rfl (fhR f l n)) (by kernel_rfl) rfl (by kernel_rfl) (fhN f l n hl)
  · cases ho⟩
end Go.Proofs.YtfclelafcdcilaaDoor.Dv
