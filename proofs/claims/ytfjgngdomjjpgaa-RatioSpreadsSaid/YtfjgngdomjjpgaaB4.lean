/- What is spread is all there is: the law. -/
import Derived.Test.YtfjgngdomjjpgaaA7
set_option linter.unusedVariables false
set_option linter.unusedSimpArgs false
namespace Go.Proofs.Ytfjgngdomjjpgaa.Dv
open Go Go.Proofs
theorem give_sum : ∀ (left : Int) (l os : List Int), l.length = os.length → (give left l os).2.sum + (give left l os).1 = os.sum + left
  | left, [], [], _ => by simp [give]
  | left, p :: l, o :: os, h => by
    have h' : l.length = os.length := by simpa using h
    unfold give
    split
    · have := give_sum (left - 1) l os h'; simp only [List.sum_cons]; omega
    · have := give_sum left l os h'; simp only [List.sum_cons]; omega
theorem give_get : ∀ (left : Int) (l os : List Int) (i : Nat) (x p o : Int), (give left l os).2[i]? = some x → l[i]? = some p → os[i]? = some o → x = o ∨ (x = o + 1 ∧ 0 < p)
  | left, [], _, i, x, p, o, h1, h2, h3 => by simp at h2
  | left, _ :: _, [], i, x, p, o, h1, h2, h3 => by simp at h3
  | left, q :: l, b :: os, i, x, p, o, h1, h2, h3 => by
    unfold give at h1
    split at h1
    · rename_i hc
      cases i with
      | zero => simp at h1 h2 h3; omega
      | succ i => exact give_get _ l os i x p o (by simpa using h1) (by simpa using h2) (by simpa using h3)
    · cases i with
      | zero => simp at h1 h2 h3; omega
      | succ i => exact give_get _ l os i x p o (by simpa using h1) (by simpa using h2) (by simpa using h3)
def cv (x : Int) : Int := wr .u64 x % 100000
theorem cv_bound (x : Int) : 0 ≤ cv x ∧ cv x ≤ 99999 := by unfold cv; omega
/-- What the shares of parts that may be are. -/
structure Fair (t : Int) (q out : List Int) : Prop where
  len : out.length = q.length
  sum : out.sum = t
  zero : ∀ (i : Nat) (p x : Int), q[i]? = some p → out[i]? = some x → p = 0 → x = 0
  near : ∀ (i : Nat) (p x : Int), q[i]? = some p → out[i]? = some x → x * q.sum ≤ t * p + q.sum ∧ t * p - q.sum ≤ x * q.sum ∧ 0 ≤ x ∧ x ≤ t + 1
  more : ∀ (i j : Nat) (p x r y : Int), q[i]? = some p → out[i]? = some x → q[j]? = some r → out[j]? = some y → p < r → x - 1 ≤ y
theorem tot_pos : ∀ {q : List Int}, (∀ p ∈ q, 0 ≤ p) → tot q = q.sum
  | [], _ => rfl
  | p :: q, h => by
    have h1 := tot_pos fun r hr => h r (List.mem_cons_of_mem _ hr)
    have h2 := h p (List.mem_cons_self ..)
    show max p 0 + tot q = _
    rw [List.sum_cons]; omega
theorem sum_small : ∀ {q : List Int}, (∀ p ∈ q, 0 ≤ p ∧ p ≤ 99999) → 0 ≤ q.sum ∧ q.sum ≤ 99999 * q.length
  | [], _ => by simp
  | p :: q, h => by
    have h1 := sum_small fun r hr => h r (List.mem_cons_of_mem _ hr)
    have h2 := h p (List.mem_cons_self ..)
    rw [List.sum_cons, List.length_cons]; omega
theorem base_mono {t s p r : Int} (ht : 0 ≤ t) (ht1 : t ≤ 1000000) (hs : 0 < s) (hp : 0 ≤ p) (hr : r ≤ s) (h : p ≤ r) : baseV t s p ≤ baseV t s r := by
  obtain ⟨_, _, a1, a2⟩ := baseV_bound ht ht1 hs (p := p) (by omega)
  obtain ⟨_, _, b1, b2⟩ := baseV_bound ht ht1 hs (p := r) (by omega)
  have e1 : max p 0 = p := by omega
  have e2 : max r 0 = r := by omega
  rw [e1] at a1 a2
  rw [e2] at b1 b2
  have h3 : t * p ≤ t * r := Int.mul_le_mul_of_nonneg_left h ht
  have h4 : s * baseV t s p < s * (baseV t s r + 1) := by
    rw [Int.mul_add]
    split at b2 <;> omega
  have := Int.lt_of_mul_lt_mul_left h4 (by omega)
  omega
theorem fair_spread {t : Int} {q : List Int} (ht : 0 ≤ t) (ht1 : t ≤ 1000000) (hq : ∀ p ∈ q, 0 ≤ p ∧ p ≤ 99999) (hlen : q.length ≤ 60) (hs : 0 < q.sum) : Fair t q (spreadV t q) := by
  obtain ⟨s1, s2⟩ := sum_small hq
  have hT := tot_pos fun p hp => (hq p hp).1
  have hS : sumV q = q.sum := by unfold sumV; rw [hT]; omega
  have hl0 : (0 : Int) < q.length := by
    cases q with
    | nil => simp at hs
    | cons _ _ => simp
  have hq2 : (100000 : Int) ≤ 4611686018427387904 / (q.length : Int) := Int.le_ediv_of_mul_le hl0 (by omega)
  have hsp : spreadV t q = (give (t - (bases t q.sum q).sum) q (bases t q.sum q)).2 := by
    unfold spreadV
    rw [if_neg, hS]
    rintro (h | h | h | ⟨p, hp, h⟩)
    · omega
    · omega
    · omega
    · have := hq p hp; omega
  have hbl := bases_len t q.sum q
  have hpos : 0 < tot q := by rw [hT]; exact hs
  obtain ⟨lb1, lb2⟩ := left_bound ht ht1 hpos
  rw [hT] at lb1 lb2
  have key : ∀ (i : Nat) (p x : Int), q[i]? = some p → (spreadV t q)[i]? = some x → (x = baseV t q.sum p ∨ (x = baseV t q.sum p + 1 ∧ 0 < p)) ∧ p ∈ q := by
    intro i p x hp hx
    rw [hsp] at hx
    exact ⟨give_get _ _ _ i x p _ hx hp (by unfold bases; rw [List.getElem?_map, hp]; rfl), List.mem_of_getElem? hp⟩
  have hle : ∀ p ∈ q, p ≤ q.sum := fun p hp => by have := tot_mem hp; omega
  constructor
  · rw [hsp, give_len _ _ _ hbl.symm]
  · have h1 := give_sum (t - (bases t q.sum q).sum) q (bases t q.sum q) hbl.symm
    have h2 := give_all (t - (bases t q.sum q).sum) q (bases t q.sum q) hbl.symm lb1 lb2
    rw [hsp]; omega
  · intro i p x hp hx h0
    obtain ⟨k, hm⟩ := key i p x hp hx
    obtain ⟨a1, a2, a3, a4⟩ := baseV_bound ht ht1 hs (p := p) (by have := hle p hm; omega)
    subst h0
    rcases k with k | k
    · rw [k]; have e : q.sum * baseV t q.sum 0 ≤ 0 := by simpa using a3
      rcases Int.lt_or_le 0 (baseV t q.sum 0) with hb | hb
      · have := Int.mul_pos hs hb; omega
      · omega
    · omega
  · intro i p x hp hx
    obtain ⟨k, hm⟩ := key i p x hp hx
    have hp1 := hq p hm
    obtain ⟨a1, a2, a3, a4⟩ := baseV_bound ht ht1 hs (p := p) (by have := hle p hm; omega)
    have e1 : max p 0 = p := by omega
    rw [e1] at a3 a4
    have e2 : q.sum * baseV t q.sum p = baseV t q.sum p * q.sum := Int.mul_comm _ _
    have e3 : (baseV t q.sum p + 1) * q.sum = baseV t q.sum p * q.sum + q.sum := by rw [Int.add_mul, Int.one_mul]
    rcases k with k | ⟨k, kp⟩
    · rw [k]; split at a4 <;> omega
    · rw [k, e3]; split at a4 <;> omega
  · intro i j p x r y hp hx hr hy hlt
    obtain ⟨k, hm⟩ := key i p x hp hx
    obtain ⟨k2, hm2⟩ := key j r y hr hy
    have := base_mono ht ht1 hs (hq p hm).1 (hle r hm2) (show p ≤ r by omega)
    omega
def spT (f : Bool) (t : Int) (all : List Int) (k : Nat) (g : List Int) : List (Nat × D) := [(0, .int .i64 t), (5, outD 0 (g.map iD)), (6, .int .i64 g.sum), (22, .sl f (all.map iD)), (23, .int .i64 (all.map iD).length), (24, .int .i64 k)]
def spL7 (f : Bool) (t : Int) : WLoop :=
  { St := List Int × List Int
    O := List Int
    T := fun x => spT f t (x.1 ++ x.2) x.1.length (x.1.map cv)
    S := fun x => [outO 1 ((x.1.map cv).map iD)]
    ok := fun x => x.1.length + x.2.length ≤ 60
    μ := fun x => x.2.length
    m := fun x => (x.1 ++ x.2).map cv
    src := [(2, true)]
    outs := [{ α := Unit, is := fun o _ => o = [], ex := .exit 0, T := fun _ => [(0, .int .i64 t), (5, .sl true []), (6, .int .i64 0)] },
      { α := Int × List Int, is := fun o a => o = a.1 :: a.2, ex := .exit 0, src := [(0, true)], T := fun a => [(0, .int .i64 t), (5, outD 0 ((a.1 :: a.2).map iD)), (6, .int .i64 (a.1 :: a.2).sum)], S := fun a => [outO 1 ((a.1 :: a.2).map iD)] }] }
theorem cv_eq (x : Int) : wr .u64 x % 100000 = cv x := rfl
theorem wr_u (x : Int) : 0 ≤ wr .u64 x := by simp only [wr]; omega
theorem cvs_sum (l : List Int) : 0 ≤ (l.map cv).sum ∧ (l.map cv).sum ≤ 99999 * l.length := by
  have := sum_small (q := l.map cv) fun p hp => by obtain ⟨x, _, rfl⟩ := List.mem_map.1 hp; exact cv_bound x
  rwa [List.length_map] at this
theorem spL7R (f : Bool) (t : Int) (x : (spL7 f t).St) (hx : (spL7 f t).ok x) : Tri Try.prog 0 153 (lp Try.f17 7) (tb ((spL7 f t).T x)) ((spL7 f t).S x) ((spL7 f t).q 0 x) := by
  obtain ⟨done, rest⟩ := x
  have h1 : done.length + rest.length ≤ 60 := hx
  cases rest with
  | nil =>
    cases done with
    | nil =>
      refine round0 (C := cfgH [] [(25, .f)]) (ctrs_ok ([]) rfl rfl) (by kernel_rfl) (by kernel_rfl) (q := false = false ∧ ((∃ (a : Unit), nilT Int = [] ∧ D.int IntKind.i64 t = D.int IntKind.i64 t ∧ D.sl true [] = D.sl true [] ∧ D.int IntKind.i64 (0 : Int) = D.int IntKind.i64 [].sum) ∨ ∃ (a : Int × List Int), nilT Int = a.fst :: a.snd ∧ (D.int IntKind.i64 t = D.int IntKind.i64 t ∧ D.ms (0 : Nat) (0 : Nat) (List.map iD (a.fst :: a.snd)).length (List.map iD (a.fst :: a.snd)).length false = D.sl true [] ∧ D.int IntKind.i64 (a.fst :: a.snd).sum = D.int IntKind.i64 [].sum) ∧ (some (Ob.row St.own (1 : Nat) (List.map iD (a.fst :: a.snd))) = none ∨ some (Ob.row St.own (1 : Nat) (List.map iD (a.fst :: a.snd))) = none ∧ False))) (by kernel_rfl) ?_
      exact ⟨rfl, .inl ⟨(), rfl, rfl, rfl, rfl⟩⟩
    | cons y ys =>
      refine round0 (C := cfgH [] [(25, .f)]) (ctrs_ok ([]) rfl rfl) (by kernel_rfl) (by kernel_rfl) (q := decide ((↑(y :: ys).length : Int) < (↑(List.map iD (y :: ys ++ [])).length : Int)) = false ∧ ((∃ (a : Unit), List.map cv (y :: ys ++ []) = [] ∧ D.int IntKind.i64 t = D.int IntKind.i64 t ∧ D.sl true [] = D.any ∧ D.int IntKind.i64 (0 : Int) = D.int IntKind.i64 (List.map cv (y :: ys)).sum) ∨ ∃ (a : Int × List Int), List.map cv (y :: ys ++ []) = a.fst :: a.snd ∧ (D.int IntKind.i64 t = D.int IntKind.i64 t ∧ D.ms (0 : Nat) (0 : Nat) (List.map iD (a.fst :: a.snd)).length (List.map iD (a.fst :: a.snd)).length false = D.ms (0 : Nat) (0 : Nat) (List.map iD (List.map cv (y :: ys))).length (List.map iD (List.map cv (y :: ys))).length false ∧ D.int IntKind.i64 (a.fst :: a.snd).sum = D.int IntKind.i64 (List.map cv (y :: ys)).sum) ∧ (some (Ob.row St.own (1 : Nat) (List.map iD (a.fst :: a.snd))) = none ∨ some (Ob.row St.own (1 : Nat) (List.map iD (a.fst :: a.snd))) = some (Ob.row St.own (1 : Nat) (List.map iD (List.map cv (y :: ys)))) ∧ (List.map iD (List.map cv (y :: ys))).all D.pure = true))) (by kernel_rfl) ?_
      exact ⟨by simp, .inr ⟨(cv y, ys.map cv), by simp, ⟨rfl, by simp, by simp⟩, .inr ⟨by simp, pure_iD _⟩⟩⟩
  | cons p rest =>
    have hb := cv_bound p
    simp only [List.length_cons] at h1
    cases done with
    | nil =>
      refine round0 (C := cfgH [] [(25, .t), (29, .w), (31, .d)]) (ctrs_ok ([]) rfl rfl) (by kernel_rfl) (by kernel_rfl) (q := decide ((0 : Int) < (↑(List.map iD (p :: rest)).length : Int)) = true ∧ ∃ (y : Int), (0 : Int) ≤ (0 : Int) ∧ some (D.int IntKind.i64 p) = some (D.int IntKind.i64 y) ∧ (0 : Int) ≤ wr IntKind.u64 y ∧ (0 : Int) < (100000 : Int) ∧ inK IntKind.i64 (wr IntKind.u64 y % (100000 : Int)) ∧ inK IntKind.i64 ([].sum + wr IntKind.u64 y % (100000 : Int)) ∧ inK IntKind.i64 ((0 : Int) + (1 : Int)) ∧ ∃ (s' : List Int × List Int), s'.fst.length + s'.snd.length ≤ (60 : Nat) ∧ s'.snd.length.succ ≤ (p :: rest).length ∧ List.map cv (s'.fst ++ s'.snd) = List.map cv (p :: rest) ∧ (D.int IntKind.i64 t = D.int IntKind.i64 t ∧ outD (0 : Nat) (List.map iD (List.map cv s'.fst)) = D.ms (0 : Nat) (0 : Nat) (1 : Nat) (1 : Nat) false ∧ D.int IntKind.i64 (List.map cv s'.fst).sum = D.int IntKind.i64 ([].sum + wr IntKind.u64 y % (100000 : Int)) ∧ D.sl f (List.map iD (s'.fst ++ s'.snd)) = D.sl f (List.map iD (p :: rest)) ∧ D.int IntKind.i64 (↑(List.map iD (s'.fst ++ s'.snd)).length : Int) = D.int IntKind.i64 (↑(List.map iD (p :: rest)).length : Int) ∧ D.int IntKind.i64 (↑s'.fst.length : Int) = D.int IntKind.i64 ((0 : Int) + (1 : Int))) ∧ (outO (1 : Nat) (List.map iD (List.map cv s'.fst)) = none ∨ outO (1 : Nat) (List.map iD (List.map cv s'.fst)) = some (Ob.row St.own (1 : Nat) [D.int IntKind.i64 (wr IntKind.u64 y % (100000 : Int))]) ∧ true = true)) (by kernel_rfl) ?_
      refine ⟨by simp, p, by omega, rfl, wr_u p, by omega, ?_⟩
      rw [cv_eq]
      exact ⟨by simp only [inK]; omega, by simp [inK]; omega, by simp only [inK]; omega, ([p], rest), by simpa [Nat.add_comm] using h1, by simp, by simp, ⟨rfl, rfl, by simp, rfl, rfl, rfl⟩, .inr ⟨by simp [outO, iD], rfl⟩⟩
    | cons y ys =>
      refine round0 (C := cfgH [] [(25, .t), (29, .w), (31, .d)]) (ctrs_ok ([]) rfl rfl) (by kernel_rfl) (by kernel_rfl) (q := decide ((↑(y :: ys).length : Int) < (↑(List.map iD (y :: ys ++ p :: rest)).length : Int)) = true ∧ ∃ (y_1 : Int), (0 : Int) ≤ (↑(y :: ys).length : Int) ∧ (List.map iD (y :: ys ++ p :: rest))[(↑(y :: ys).length : Int).toNat]? = some (D.int IntKind.i64 y_1) ∧ (0 : Int) ≤ wr IntKind.u64 y_1 ∧ (0 : Int) < (100000 : Int) ∧ inK IntKind.i64 (wr IntKind.u64 y_1 % (100000 : Int)) ∧ (0 : Nat) + (List.map iD (List.map cv (y :: ys))).length ≤ (List.map iD (List.map cv (y :: ys))).length ∧ (List.map iD (List.map cv (y :: ys))).length ≤ (List.map iD (List.map cv (y :: ys))).length ∧ ((List.map iD (List.map cv (y :: ys))).length + (1 : Nat)) * (8 : Nat) ≤ (140737488355328 : Nat) ∧ (List.map iD (List.map cv (y :: ys))).length.succ ≤ (List.map iD (List.map cv (y :: ys))).length + (1 : Nat) ∧ (0 : Nat) = (0 : Nat) ∧ inK IntKind.i64 ((List.map cv (y :: ys)).sum + wr IntKind.u64 y_1 % (100000 : Int)) ∧ inK IntKind.i64 ((↑(y :: ys).length : Int) + (1 : Int)) ∧ ∃ (s' : List Int × List Int), s'.fst.length + s'.snd.length ≤ (60 : Nat) ∧ s'.snd.length.succ ≤ (p :: rest).length ∧ List.map cv (s'.fst ++ s'.snd) = List.map cv (y :: ys ++ p :: rest) ∧ (D.int IntKind.i64 t = D.int IntKind.i64 t ∧ outD (0 : Nat) (List.map iD (List.map cv s'.fst)) = D.ms (0 : Nat) (0 : Nat) ((List.map iD (List.map cv (y :: ys))).length + (1 : Nat)) ((List.map iD (List.map cv (y :: ys))).length + (1 : Nat)) false ∧ D.int IntKind.i64 (List.map cv s'.fst).sum = D.int IntKind.i64 ((List.map cv (y :: ys)).sum + wr IntKind.u64 y_1 % (100000 : Int)) ∧ D.sl f (List.map iD (s'.fst ++ s'.snd)) = D.sl f (List.map iD (y :: ys ++ p :: rest)) ∧ D.int IntKind.i64 (↑(List.map iD (s'.fst ++ s'.snd)).length : Int) = D.int IntKind.i64 (↑(List.map iD (y :: ys ++ p :: rest)).length : Int) ∧ D.int IntKind.i64 (↑s'.fst.length : Int) = D.int IntKind.i64 ((↑(y :: ys).length : Int) + (1 : Int))) ∧ (outO (1 : Nat) (List.map iD (List.map cv s'.fst)) = none ∨ outO (1 : Nat) (List.map iD (List.map cv s'.fst)) = some (Ob.row St.own (1 : Nat) (List.take (List.map iD (List.map cv (y :: ys))).length (List.map iD (List.map cv (y :: ys))) ++ [D.int IntKind.i64 (wr IntKind.u64 y_1 % (100000 : Int))])) ∧ (List.take (List.map iD (List.map cv (y :: ys))).length (List.map iD (List.map cv (y :: ys))) ++ [D.int IntKind.i64 (wr IntKind.u64 y_1 % (100000 : Int))]).all D.pure = true)) (by kernel_rfl) ?_
      have hs := cvs_sum (y :: ys)
      refine ⟨by simp; omega, p, by omega, get_midI iD _ _ _, wr_u p, by omega, ?_⟩
      rw [cv_eq]
      refine ⟨by simp only [inK]; omega, by simp, by simp, ?_, by simp, rfl, by simp only [inK]; omega, by simp only [inK]; omega, (y :: ys ++ [p], rest), ?_, by simp, by simp, ⟨rfl, ?_, ?_, ?_, ?_, ?_⟩, .inr ⟨?_, ?_⟩⟩
      · simp only [List.length_map]; omega
      · simp only [List.length_append, List.length_singleton]; omega
      · simp [outD]
      · simp; omega
      · simp
      · simp
      · simp
      · simp [outO, iD, List.take_of_length_le]
      · rw [List.take_length, List.all_append, pure_iD]; rfl
/-- Both rows, and where we are. -/
def spE (t : Int) (q o : List Int) (i : Nat) (s : Int) : List (Nat × D) := [(0, .int .i64 t), (5, .ms 0 0 q.length q.length false), (6, .int .i64 q.sum), (9, .sl true (o.map iD)), (10, .int .i64 s), (56, .sl true (o.map iD)), (57, .int .i64 (o.map iD).length), (58, .int .i64 i)]
def spSt (q : List Int) : Store := [some (.row .cst 1 (q.map iD))]
def spL26 (t : Int) (q o : List Int) (i : Nat) (s x : Int) : WLoop :=
  { St := Nat
    O := Unit
    T := fun j => spE t q o i s ++ [(11, .int .i64 i), (12, .int .i64 x), (103, .int .i64 i), (104, .int .i64 j)]
    S := fun _ => spSt q
    ok := fun j => j ≤ i ∧ o[i]? = some x ∧ Fair t q o ∧ q.length ≤ 60 ∧ 0 ≤ t ∧ t ≤ 1000000
    μ := fun j => i - j
    m := fun _ => ()
    src := [(0, true)]
    outs := [{ α := Unit, is := fun _ _ => True, ex := .exit 4, src := [(0, true)], T := fun _ => spE t q o i s, S := fun _ => spSt q }] }
theorem spL26R (t : Int) (q o : List Int) (i : Nat) (s x : Int) (j : Nat) (hj : (spL26 t q o i s x).ok j) : Tri Try.prog 0 153 (lp Try.f17 26) (tb ((spL26 t q o i s x).T j)) ((spL26 t q o i s x).S j) ((spL26 t q o i s x).q 0 j) := by
  obtain ⟨h1, h2, h3, h4, h5, h6⟩ := hj
  have hx : i < o.length := (List.getElem?_eq_some_iff.1 h2).1
  have hlen := h3.len
  rcases Nat.lt_or_ge j i with h | h
  · refine round0 (C := cfgH [] [(105, .t), (125, .f), (144, .f)]) (ctrs_ok ([]) rfl rfl) (by kernel_rfl) (by kernel_rfl) (q := decide ((↑j : Int) < (↑i : Int)) = true ∧ (0 : Int) ≤ (↑j : Int) ∧ (↑j : Int) < (↑q.length : Int) ∧ ∃ (x_1 : Int), (List.map iD q)[(0 : Nat) + (↑j : Int).toNat]? = some (D.int IntKind.i64 x_1) ∧ (0 : Int) ≤ (↑i : Int) ∧ (↑i : Int) < (↑q.length : Int) ∧ ∃ (x_2 : Int), (List.map iD q)[(0 : Nat) + (↑i : Int).toNat]? = some (D.int IntKind.i64 x_2) ∧ (decide (x_2 < x_1) = true → ∃ (y : Int), (0 : Int) ≤ (↑j : Int) ∧ (List.map iD o)[(↑j : Int).toNat]? = some (D.int IntKind.i64 y) ∧ inK IntKind.i64 (x - (1 : Int)) ∧ decide (y < x - (1 : Int)) = false ∧ (0 : Int) ≤ (↑j : Int) ∧ (↑j : Int) < (↑q.length : Int) ∧ ∃ (x_3 : Int), (List.map iD q)[(0 : Nat) + (↑j : Int).toNat]? = some (D.int IntKind.i64 x_3) ∧ (0 : Int) ≤ (↑i : Int) ∧ (↑i : Int) < (↑q.length : Int) ∧ ∃ (x_4 : Int), (List.map iD q)[(0 : Nat) + (↑i : Int).toNat]? = some (D.int IntKind.i64 x_4) ∧ (decide (x_3 < x_4) = true → ∃ (y : Int), (0 : Int) ≤ (↑j : Int) ∧ (List.map iD o)[(↑j : Int).toNat]? = some (D.int IntKind.i64 y) ∧ inK IntKind.i64 (x + (1 : Int)) ∧ decide (x + (1 : Int) < y) = false ∧ inK IntKind.i64 ((↑j : Int) + (1 : Int)) ∧ ∃ (s' : Nat), (s' ≤ i ∧ o[i]? = some x ∧ Fair t q o ∧ q.length ≤ (60 : Nat) ∧ (0 : Int) ≤ t ∧ t ≤ (1000000 : Int)) ∧ (i - s').succ ≤ i - j ∧ () = () ∧ (D.int IntKind.i64 t = D.int IntKind.i64 t ∧ D.ms (0 : Nat) (0 : Nat) q.length q.length false = D.ms (0 : Nat) (0 : Nat) q.length q.length false ∧ D.int IntKind.i64 q.sum = D.int IntKind.i64 q.sum ∧ D.sl true (List.map iD o) = D.sl true (List.map iD o) ∧ D.int IntKind.i64 s = D.int IntKind.i64 s ∧ D.sl true (List.map iD o) = D.sl true (List.map iD o) ∧ D.int IntKind.i64 (↑(List.map iD o).length : Int) = D.int IntKind.i64 (↑(List.map iD o).length : Int) ∧ D.int IntKind.i64 (↑i : Int) = D.int IntKind.i64 (↑i : Int) ∧ D.int IntKind.i64 (↑i : Int) = D.int IntKind.i64 (↑i : Int) ∧ D.int IntKind.i64 x = D.int IntKind.i64 x ∧ D.int IntKind.i64 (↑i : Int) = D.int IntKind.i64 (↑i : Int) ∧ D.int IntKind.i64 (↑s' : Int) = D.int IntKind.i64 ((↑j : Int) + (1 : Int))) ∧ (some (Ob.row St.cst (1 : Nat) (List.map iD q)) = none ∨ some (Ob.row St.cst (1 : Nat) (List.map iD q)) = some (Ob.row St.cst (1 : Nat) (List.map iD q)) ∧ (List.map iD q).all D.pure = true)) ∧ (decide (x_3 < x_4) = false → inK IntKind.i64 ((↑j : Int) + (1 : Int)) ∧ ∃ (s' : Nat), (s' ≤ i ∧ o[i]? = some x ∧ Fair t q o ∧ q.length ≤ (60 : Nat) ∧ (0 : Int) ≤ t ∧ t ≤ (1000000 : Int)) ∧ (i - s').succ ≤ i - j ∧ () = () ∧ (D.int IntKind.i64 t = D.int IntKind.i64 t ∧ D.ms (0 : Nat) (0 : Nat) q.length q.length false = D.ms (0 : Nat) (0 : Nat) q.length q.length false ∧ D.int IntKind.i64 q.sum = D.int IntKind.i64 q.sum ∧ D.sl true (List.map iD o) = D.sl true (List.map iD o) ∧ D.int IntKind.i64 s = D.int IntKind.i64 s ∧ D.sl true (List.map iD o) = D.sl true (List.map iD o) ∧ D.int IntKind.i64 (↑(List.map iD o).length : Int) = D.int IntKind.i64 (↑(List.map iD o).length : Int) ∧ D.int IntKind.i64 (↑i : Int) = D.int IntKind.i64 (↑i : Int) ∧ D.int IntKind.i64 (↑i : Int) = D.int IntKind.i64 (↑i : Int) ∧ D.int IntKind.i64 x = D.int IntKind.i64 x ∧ D.int IntKind.i64 (↑i : Int) = D.int IntKind.i64 (↑i : Int) ∧ D.int IntKind.i64 (↑s' : Int) = D.int IntKind.i64 ((↑j : Int) + (1 : Int))) ∧ (some (Ob.row St.cst (1 : Nat) (List.map iD q)) = none ∨ some (Ob.row St.cst (1 : Nat) (List.map iD q)) = some (Ob.row St.cst (1 : Nat) (List.map iD q)) ∧ (List.map iD q).all D.pure = true))) ∧ (decide (x_2 < x_1) = false → (0 : Int) ≤ (↑j : Int) ∧ (↑j : Int) < (↑q.length : Int) ∧ ∃ (x_3 : Int), (List.map iD q)[(0 : Nat) + (↑j : Int).toNat]? = some (D.int IntKind.i64 x_3) ∧ (0 : Int) ≤ (↑i : Int) ∧ (↑i : Int) < (↑q.length : Int) ∧ ∃ (x_4 : Int), (List.map iD q)[(0 : Nat) + (↑i : Int).toNat]? = some (D.int IntKind.i64 x_4) ∧ (decide (x_3 < x_4) = true → ∃ (y : Int), (0 : Int) ≤ (↑j : Int) ∧ (List.map iD o)[(↑j : Int).toNat]? = some (D.int IntKind.i64 y) ∧ inK IntKind.i64 (x + (1 : Int)) ∧ decide (x + (1 : Int) < y) = false ∧ inK IntKind.i64 ((↑j : Int) + (1 : Int)) ∧ ∃ (s' : Nat), (s' ≤ i ∧ o[i]? = some x ∧ Fair t q o ∧ q.length ≤ (60 : Nat) ∧ (0 : Int) ≤ t ∧ t ≤ (1000000 : Int)) ∧ (i - s').succ ≤ i - j ∧ () = () ∧ (D.int IntKind.i64 t = D.int IntKind.i64 t ∧ D.ms (0 : Nat) (0 : Nat) q.length q.length false = D.ms (0 : Nat) (0 : Nat) q.length q.length false ∧ D.int IntKind.i64 q.sum = D.int IntKind.i64 q.sum ∧ D.sl true (List.map iD o) = D.sl true (List.map iD o) ∧ D.int IntKind.i64 s = D.int IntKind.i64 s ∧ D.sl true (List.map iD o) = D.sl true (List.map iD o) ∧ D.int IntKind.i64 (↑(List.map iD o).length : Int) = D.int IntKind.i64 (↑(List.map iD o).length : Int) ∧ D.int IntKind.i64 (↑i : Int) = D.int IntKind.i64 (↑i : Int) ∧ D.int IntKind.i64 (↑i : Int) = D.int IntKind.i64 (↑i : Int) ∧ D.int IntKind.i64 x = D.int IntKind.i64 x ∧ D.int IntKind.i64 (↑i : Int) = D.int IntKind.i64 (↑i : Int) ∧ D.int IntKind.i64 (↑s' : Int) = D.int IntKind.i64 ((↑j : Int) + (1 : Int))) ∧ (some (Ob.row St.cst (1 : Nat) (List.map iD q)) = none ∨ some (Ob.row St.cst (1 : Nat) (List.map iD q)) = some (Ob.row St.cst (1 : Nat) (List.map iD q)) ∧ (List.map iD q).all D.pure = true)) ∧ (decide (x_3 < x_4) = false → inK IntKind.i64 ((↑j : Int) + (1 : Int)) ∧ ∃ (s' : Nat), (s' ≤ i ∧ o[i]? = some x ∧ Fair t q o ∧ q.length ≤ (60 : Nat) ∧ (0 : Int) ≤ t ∧ t ≤ (1000000 : Int)) ∧ (i - s').succ ≤ i - j ∧ () = () ∧ (D.int IntKind.i64 t = D.int IntKind.i64 t ∧ D.ms (0 : Nat) (0 : Nat) q.length q.length false = D.ms (0 : Nat) (0 : Nat) q.length q.length false ∧ D.int IntKind.i64 q.sum = D.int IntKind.i64 q.sum ∧ D.sl true (List.map iD o) = D.sl true (List.map iD o) ∧ D.int IntKind.i64 s = D.int IntKind.i64 s ∧ D.sl true (List.map iD o) = D.sl true (List.map iD o) ∧ D.int IntKind.i64 (↑(List.map iD o).length : Int) = D.int IntKind.i64 (↑(List.map iD o).length : Int) ∧ D.int IntKind.i64 (↑i : Int) = D.int IntKind.i64 (↑i : Int) ∧ D.int IntKind.i64 (↑i : Int) = D.int IntKind.i64 (↑i : Int) ∧ D.int IntKind.i64 x = D.int IntKind.i64 x ∧ D.int IntKind.i64 (↑i : Int) = D.int IntKind.i64 (↑i : Int) ∧ D.int IntKind.i64 (↑s' : Int) = D.int IntKind.i64 ((↑j : Int) + (1 : Int))) ∧ (some (Ob.row St.cst (1 : Nat) (List.map iD q)) = none ∨ some (Ob.row St.cst (1 : Nat) (List.map iD q)) = some (Ob.row St.cst (1 : Nat) (List.map iD q)) ∧ (List.map iD q).all D.pure = true)))) (by kernel_rfl) ?_
    obtain ⟨p, hp⟩ : ∃ p, q[i]? = some p := ⟨_, List.getElem?_eq_getElem (by omega)⟩
    obtain ⟨r, hr⟩ : ∃ r, q[j]? = some r := ⟨_, List.getElem?_eq_getElem (by omega)⟩
    obtain ⟨y, hy⟩ : ∃ y, o[j]? = some y := ⟨_, List.getElem?_eq_getElem (by omega)⟩
    obtain ⟨_, _, n1, n2⟩ := h3.near i p x hp h2
    have gp : (List.map iD q)[0 + ((i : Int)).toNat]? = some (iD p) := by simp [hp]
    have gr : (List.map iD q)[0 + ((j : Int)).toNat]? = some (iD r) := by simp [hr]
    have gy : (List.map iD o)[((j : Int)).toNat]? = some (iD y) := by simp [hy]
    refine ⟨decide_eq_true (by omega), by omega, by omega, r, gr, by omega, by omega, p, gp, chks (fun hc => ⟨y, by omega, gy, by simp only [inK]; omega, decide_eq_false ?_, ?_⟩) fun hc => ?_⟩
    · have := h3.more i j p x r y hp h2 hr hy hc; omega
    · refine ⟨by omega, by omega, r, gr, by omega, by omega, p, gp, chks (fun hd => by omega) fun hd => ?_⟩
      exact ⟨by simp only [inK]; omega, j + 1, ⟨by omega, h2, h3, h4, h5, h6⟩, by omega, rfl, ⟨rfl, rfl, rfl, rfl, rfl, rfl, rfl, rfl, rfl, rfl, rfl, by simp⟩, .inr ⟨rfl, pure_iD _⟩⟩
    · refine ⟨by omega, by omega, r, gr, by omega, by omega, p, gp, chks (fun hd => ⟨y, by omega, gy, by simp only [inK]; omega, decide_eq_false ?_, ?_⟩) fun hd => ?_⟩
      · have := h3.more j i r y p x hr hy hp h2 hd; omega
      · exact ⟨by simp only [inK]; omega, j + 1, ⟨by omega, h2, h3, h4, h5, h6⟩, by omega, rfl, ⟨rfl, rfl, rfl, rfl, rfl, rfl, rfl, rfl, rfl, rfl, rfl, by simp⟩, .inr ⟨rfl, pure_iD _⟩⟩
      · exact ⟨by simp only [inK]; omega, j + 1, ⟨by omega, h2, h3, h4, h5, h6⟩, by omega, rfl, ⟨rfl, rfl, rfl, rfl, rfl, rfl, rfl, rfl, rfl, rfl, rfl, by simp⟩, .inr ⟨rfl, pure_iD _⟩⟩
  · refine round0 (C := cfgH [] [(105, .f)]) (ctrs_ok ([]) rfl rfl) (by kernel_rfl) (by kernel_rfl) (q := decide ((↑j : Int) < (↑i : Int)) = false ∧ ∃ (a : Unit), True ∧ (D.int IntKind.i64 t = D.int IntKind.i64 t ∧ D.ms (0 : Nat) (0 : Nat) q.length q.length false = D.ms (0 : Nat) (0 : Nat) q.length q.length false ∧ D.int IntKind.i64 q.sum = D.int IntKind.i64 q.sum ∧ D.sl true (List.map iD o) = D.sl true (List.map iD o) ∧ D.int IntKind.i64 s = D.int IntKind.i64 s ∧ D.sl true (List.map iD o) = D.sl true (List.map iD o) ∧ D.int IntKind.i64 (↑(List.map iD o).length : Int) = D.int IntKind.i64 (↑(List.map iD o).length : Int) ∧ D.int IntKind.i64 (↑i : Int) = D.int IntKind.i64 (↑i : Int)) ∧ (some (Ob.row St.cst (1 : Nat) (List.map iD q)) = none ∨ some (Ob.row St.cst (1 : Nat) (List.map iD q)) = some (Ob.row St.cst (1 : Nat) (List.map iD q)) ∧ (List.map iD q).all D.pure = true)) (by kernel_rfl) ?_
    exact ⟨decide_eq_false (by omega), (), trivial, ⟨rfl, rfl, rfl, rfl, rfl, rfl, rfl, rfl⟩, .inr ⟨rfl, pure_iD _⟩⟩
theorem Int.sum_nonneg' : ∀ {l : List Int}, (∀ x ∈ l, 0 ≤ x) → 0 ≤ l.sum
  | [], _ => by simp
  | x :: l, h => by
    have h1 := Int.sum_nonneg' fun y hy => h y (List.mem_cons_of_mem _ hy)
    have h2 := h x (List.mem_cons_self ..)
    rw [List.sum_cons]; omega
def spL20 (t : Int) (q : List Int) : WLoop :=
  { St := List Int × List Int
    O := List Int
    T := fun x => spE t q (x.1 ++ x.2) x.1.length x.1.sum
    S := fun _ => spSt q
    ok := fun x => Fair t q (x.1 ++ x.2) ∧ q.length ≤ 60 ∧ 0 ≤ t ∧ t ≤ 1000000 ∧ (∀ p ∈ q, 0 ≤ p ∧ p ≤ 99999)
    μ := fun x => x.2.length
    m := fun x => x.1 ++ x.2
    src := [(0, true)]
    outs := [{ α := Unit, is := fun _ _ => True, ex := .exit 2, T := fun _ => [(0, .int .i64 t), (10, .int .i64 t)] }] }
def spC26 (t : Int) (q o : List Int) (i : Nat) (s x : Int) : WCfg := { cfgH [] [(59, .t), (75, .f), (89, .f), (102, .f)] with loops := fun k => match k with | 26 => some ((spL26 t q o i s x).row [(0, true)]) | _ => none }
theorem spL20R (t : Int) (q : List Int) (x : (spL20 t q).St) (hx : (spL20 t q).ok x) : Tri Try.prog 0 153 (lp Try.f17 20) (tb ((spL20 t q).T x)) ((spL20 t q).S x) ((spL20 t q).q 0 x) := by
  obtain ⟨done, rest⟩ := x
  obtain ⟨h1, h2, h3, h4, h5⟩ := hx
  simp only at h1
  have hlen := h1.len
  have hsum := h1.sum
  cases rest with
  | nil =>
    refine roundL (C := cfgH [] [(59, .f)]) (ctrs_ok ([]) rfl rfl) (by kernel_rfl) (l := [lp Try.f17 26]) (by kernel_rfl) ?_ (q := decide ((↑done.length : Int) < (↑(List.map iD (done ++ [])).length : Int)) = false ∧ ∃ (a : Unit), True ∧ D.int IntKind.i64 t = D.int IntKind.i64 t ∧ D.int IntKind.i64 t = D.int IntKind.i64 done.sum) (by kernel_rfl) ?_
    · intro c hc row hr; cases hr
    refine ⟨by simp, (), trivial, rfl, by rw [← hsum]; simp⟩
  | cons x rest =>
    refine roundL (C := spC26 t q (done ++ x :: rest) done.length (done.sum + x) x) (ctrs_ok ([]) rfl rfl) (by kernel_rfl) (l := [lp Try.f17 26]) (by kernel_rfl) ?_ (q := decide ((↑done.length : Int) < (↑(List.map iD (done ++ x :: rest)).length : Int)) = true ∧ ∃ (y : Int), (0 : Int) ≤ (↑done.length : Int) ∧ (List.map iD (done ++ x :: rest))[(↑done.length : Int).toNat]? = some (D.int IntKind.i64 y) ∧ inK IntKind.i64 (done.sum + y) ∧ (0 : Int) ≤ (↑done.length : Int) ∧ (↑done.length : Int) < (↑q.length : Int) ∧ ∃ (x_1 : Int), (List.map iD q)[(0 : Nat) + (↑done.length : Int).toNat]? = some (D.int IntKind.i64 x_1) ∧ (decide (x_1 = (0 : Int)) = true → decide (y ≠ (0 : Int)) = false ∧ inK IntKind.i64 (y * q.sum) ∧ (0 : Int) ≤ (↑done.length : Int) ∧ (↑done.length : Int) < (↑q.length : Int) ∧ ∃ (x_2 : Int), (List.map iD q)[(0 : Nat) + (↑done.length : Int).toNat]? = some (D.int IntKind.i64 x_2) ∧ inK IntKind.i64 (t * x_2) ∧ inK IntKind.i64 (t * x_2 + q.sum) ∧ decide (t * x_2 + q.sum < y * q.sum) = false ∧ inK IntKind.i64 (y * q.sum) ∧ (0 : Int) ≤ (↑done.length : Int) ∧ (↑done.length : Int) < (↑q.length : Int) ∧ ∃ (x_3 : Int), (List.map iD q)[(0 : Nat) + (↑done.length : Int).toNat]? = some (D.int IntKind.i64 x_3) ∧ inK IntKind.i64 (t * x_3) ∧ inK IntKind.i64 (t * x_3 - q.sum) ∧ decide (y * q.sum < t * x_3 - q.sum) = false ∧ ∃ (b : Nat), (b ≤ done.length ∧ (done ++ x :: rest)[done.length]? = some x ∧ Fair t q (done ++ x :: rest) ∧ q.length ≤ (60 : Nat) ∧ (0 : Int) ≤ t ∧ t ≤ (1000000 : Int)) ∧ ((D.int IntKind.i64 t = D.int IntKind.i64 t ∧ D.ms (0 : Nat) (0 : Nat) q.length q.length false = D.ms (0 : Nat) (0 : Nat) q.length q.length false ∧ D.int IntKind.i64 q.sum = D.int IntKind.i64 q.sum ∧ D.sl true (List.map iD (done ++ x :: rest)) = D.sl true (List.map iD (done ++ x :: rest)) ∧ D.int IntKind.i64 (done.sum + x) = D.int IntKind.i64 (done.sum + y) ∧ D.sl true (List.map iD (done ++ x :: rest)) = D.sl true (List.map iD (done ++ x :: rest)) ∧ D.int IntKind.i64 (↑(List.map iD (done ++ x :: rest)).length : Int) = D.int IntKind.i64 (↑(List.map iD (done ++ x :: rest)).length : Int) ∧ D.int IntKind.i64 (↑done.length : Int) = D.int IntKind.i64 (↑done.length : Int) ∧ D.int IntKind.i64 (↑done.length : Int) = D.int IntKind.i64 (↑done.length : Int) ∧ D.int IntKind.i64 x = D.int IntKind.i64 y ∧ D.int IntKind.i64 (↑done.length : Int) = D.int IntKind.i64 (↑done.length : Int) ∧ D.int IntKind.i64 (↑b : Int) = D.int IntKind.i64 (0 : Int)) ∧ (some (Ob.row St.cst (1 : Nat) (List.map iD q)) = none ∨ some (Ob.row St.cst (1 : Nat) (List.map iD q)) = some (Ob.row St.cst (1 : Nat) (List.map iD q)) ∧ (List.map iD q).all D.pure = true)) ∧ ∀ (a : Unit), True → inK IntKind.i64 ((↑done.length : Int) + (1 : Int)) ∧ ∃ (s' : List Int × List Int), (Fair t q (s'.fst ++ s'.snd) ∧ q.length ≤ (60 : Nat) ∧ (0 : Int) ≤ t ∧ t ≤ (1000000 : Int) ∧ ∀ (p : Int), List.Mem p q → (0 : Int) ≤ p ∧ p ≤ (99999 : Int)) ∧ s'.snd.length.succ ≤ (x :: rest).length ∧ s'.fst ++ s'.snd = done ++ x :: rest ∧ (D.int IntKind.i64 t = D.int IntKind.i64 t ∧ D.ms (0 : Nat) (0 : Nat) q.length q.length false = D.ms (0 : Nat) (0 : Nat) q.length q.length false ∧ D.int IntKind.i64 q.sum = D.int IntKind.i64 q.sum ∧ D.sl true (List.map iD (s'.fst ++ s'.snd)) = D.sl true (List.map iD (done ++ x :: rest)) ∧ D.int IntKind.i64 s'.fst.sum = D.int IntKind.i64 (done.sum + x) ∧ D.sl true (List.map iD (s'.fst ++ s'.snd)) = D.sl true (List.map iD (done ++ x :: rest)) ∧ D.int IntKind.i64 (↑(List.map iD (s'.fst ++ s'.snd)).length : Int) = D.int IntKind.i64 (↑(List.map iD (done ++ x :: rest)).length : Int) ∧ D.int IntKind.i64 (↑s'.fst.length : Int) = D.int IntKind.i64 ((↑done.length : Int) + (1 : Int))) ∧ (some (Ob.row St.cst (1 : Nat) (List.map iD q)) = none ∨ some (Ob.row St.cst (1 : Nat) (List.map iD q)) = some (Ob.row St.cst (1 : Nat) (List.map iD q)) ∧ (List.map iD q).all D.pure = true)) ∧ (decide (x_1 = (0 : Int)) = false → inK IntKind.i64 (y * q.sum) ∧ (0 : Int) ≤ (↑done.length : Int) ∧ (↑done.length : Int) < (↑q.length : Int) ∧ ∃ (x_2 : Int), (List.map iD q)[(0 : Nat) + (↑done.length : Int).toNat]? = some (D.int IntKind.i64 x_2) ∧ inK IntKind.i64 (t * x_2) ∧ inK IntKind.i64 (t * x_2 + q.sum) ∧ decide (t * x_2 + q.sum < y * q.sum) = false ∧ inK IntKind.i64 (y * q.sum) ∧ (0 : Int) ≤ (↑done.length : Int) ∧ (↑done.length : Int) < (↑q.length : Int) ∧ ∃ (x_3 : Int), (List.map iD q)[(0 : Nat) + (↑done.length : Int).toNat]? = some (D.int IntKind.i64 x_3) ∧ inK IntKind.i64 (t * x_3) ∧ inK IntKind.i64 (t * x_3 - q.sum) ∧ decide (y * q.sum < t * x_3 - q.sum) = false ∧ ∃ (b : Nat), (b ≤ done.length ∧ (done ++ x :: rest)[done.length]? = some x ∧ Fair t q (done ++ x :: rest) ∧ q.length ≤ (60 : Nat) ∧ (0 : Int) ≤ t ∧ t ≤ (1000000 : Int)) ∧ ((D.int IntKind.i64 t = D.int IntKind.i64 t ∧ D.ms (0 : Nat) (0 : Nat) q.length q.length false = D.ms (0 : Nat) (0 : Nat) q.length q.length false ∧ D.int IntKind.i64 q.sum = D.int IntKind.i64 q.sum ∧ D.sl true (List.map iD (done ++ x :: rest)) = D.sl true (List.map iD (done ++ x :: rest)) ∧ D.int IntKind.i64 (done.sum + x) = D.int IntKind.i64 (done.sum + y) ∧ D.sl true (List.map iD (done ++ x :: rest)) = D.sl true (List.map iD (done ++ x :: rest)) ∧ D.int IntKind.i64 (↑(List.map iD (done ++ x :: rest)).length : Int) = D.int IntKind.i64 (↑(List.map iD (done ++ x :: rest)).length : Int) ∧ D.int IntKind.i64 (↑done.length : Int) = D.int IntKind.i64 (↑done.length : Int) ∧ D.int IntKind.i64 (↑done.length : Int) = D.int IntKind.i64 (↑done.length : Int) ∧ D.int IntKind.i64 x = D.int IntKind.i64 y ∧ D.int IntKind.i64 (↑done.length : Int) = D.int IntKind.i64 (↑done.length : Int) ∧ D.int IntKind.i64 (↑b : Int) = D.int IntKind.i64 (0 : Int)) ∧ (some (Ob.row St.cst (1 : Nat) (List.map iD q)) = none ∨ some (Ob.row St.cst (1 : Nat) (List.map iD q)) = some (Ob.row St.cst (1 : Nat) (List.map iD q)) ∧ (List.map iD q).all D.pure = true)) ∧ ∀ (a : Unit), True → inK IntKind.i64 ((↑done.length : Int) + (1 : Int)) ∧ ∃ (s' : List Int × List Int), (Fair t q (s'.fst ++ s'.snd) ∧ q.length ≤ (60 : Nat) ∧ (0 : Int) ≤ t ∧ t ≤ (1000000 : Int) ∧ ∀ (p : Int), List.Mem p q → (0 : Int) ≤ p ∧ p ≤ (99999 : Int)) ∧ s'.snd.length.succ ≤ (x :: rest).length ∧ s'.fst ++ s'.snd = done ++ x :: rest ∧ (D.int IntKind.i64 t = D.int IntKind.i64 t ∧ D.ms (0 : Nat) (0 : Nat) q.length q.length false = D.ms (0 : Nat) (0 : Nat) q.length q.length false ∧ D.int IntKind.i64 q.sum = D.int IntKind.i64 q.sum ∧ D.sl true (List.map iD (s'.fst ++ s'.snd)) = D.sl true (List.map iD (done ++ x :: rest)) ∧ D.int IntKind.i64 s'.fst.sum = D.int IntKind.i64 (done.sum + x) ∧ D.sl true (List.map iD (s'.fst ++ s'.snd)) = D.sl true (List.map iD (done ++ x :: rest)) ∧ D.int IntKind.i64 (↑(List.map iD (s'.fst ++ s'.snd)).length : Int) = D.int IntKind.i64 (↑(List.map iD (done ++ x :: rest)).length : Int) ∧ D.int IntKind.i64 (↑s'.fst.length : Int) = D.int IntKind.i64 ((↑done.length : Int) + (1 : Int))) ∧ (some (Ob.row St.cst (1 : Nat) (List.map iD q)) = none ∨ some (Ob.row St.cst (1 : Nat) (List.map iD q)) = some (Ob.row St.cst (1 : Nat) (List.map iD q)) ∧ (List.map iD q).all D.pure = true))) (by kernel_rfl) ?_
    · intro c hc
      rw [List.mem_singleton.1 hc]
      exact (spL26 t q (done ++ x :: rest) done.length (done.sum + x) x).fits 26 [(0, true)] (by kernel_rfl) rfl (spL26R t q (done ++ x :: rest) done.length (done.sum + x) x)
    have hk : done.length < q.length := by rw [← hlen]; simp
    obtain ⟨p, hp⟩ : ∃ p, q[done.length]? = some p := ⟨_, List.getElem?_eq_getElem hk⟩
    have hx : (done ++ x :: rest)[done.length]? = some x := by simp
    obtain ⟨n1, n2, n3, n4⟩ := h1.near _ p x hp hx
    have n5 := h1.zero _ p x hp hx
    have gp : (List.map iD q)[0 + ((done.length : Int)).toNat]? = some (iD p) := by simp [hp]
    obtain ⟨p1, p2⟩ := h5 p (List.mem_of_getElem? hp)
    obtain ⟨q1, q2⟩ := sum_small h5
    have tp1 := Int.mul_nonneg h3 p1
    have tp2 := Int.mul_le_mul h4 p2 p1 (by omega)
    have xq := Int.mul_nonneg n3 q1
    have xs : x ≤ t + 1 := n4
    have ds : done.sum + x + rest.sum = t := by rw [← hsum]; simp; omega
    have nn : ∀ z ∈ done ++ x :: rest, 0 ≤ z := by
      intro z hz
      obtain ⟨k, hk, rfl⟩ := List.getElem_of_mem hz
      exact (h1.near k q[k] _ (List.getElem?_eq_getElem (by omega)) (List.getElem?_eq_getElem hk)).2.2.1
    have d0 : 0 ≤ done.sum := Int.sum_nonneg' fun z hz => nn z (by simp [hz])
    have r0 : 0 ≤ rest.sum := Int.sum_nonneg' fun z hz => nn z (by simp [hz])
    refine ⟨by simp; omega, x, by omega, get_midI iD _ _ _, by simp only [inK]; omega, by omega, by omega, p, gp, chks (fun h0 => ⟨decide_eq_false (by simpa using n5 h0), ?_⟩) fun _ => ?_⟩
    all_goals
      refine ⟨by simp only [inK]; omega, by omega, by omega, p, gp, by simp only [inK]; omega, by simp only [inK]; omega, decide_eq_false (by omega), by simp only [inK]; omega, by omega, by omega, p, gp, by simp only [inK]; omega, by simp only [inK]; omega, decide_eq_false (by omega), 0, ⟨by omega, hx, h1, h2, h3, h4⟩, ⟨⟨rfl, rfl, rfl, rfl, rfl, rfl, rfl, rfl, rfl, rfl, rfl, rfl⟩, .inr ⟨rfl, pure_iD _⟩⟩, fun _ _ => ?_⟩
      exact ⟨by simp only [inK]; omega, (done ++ [x], rest), ⟨by simpa using h1, h2, h3, h4, h5⟩, by simp, by simp, ⟨rfl, rfl, rfl, by simp, by simp, by simp, by simp, by simp⟩, .inr ⟨rfl, pure_iD _⟩⟩
def spLawC : List Ctr := [sprC, awakeC 50 (by kernel_rfl)]
def spT0 (t : Int) : Int := wr .u64 t % 1000001
def spCfg (f : Bool) (t : Int) (l : List Int) : WCfg := { cfgH spLawC [(16, .f), (19, .w), (48, .t), (55, .f), (150, .t)] with loops := fun k => match k with | 7 => some ((spL7 f (spT0 t)).row [(0, true)]) | 20 => some ((spL20 (spT0 t) (l.map cv)).row [(0, true)]) | _ => none }
theorem spLawN (f : Bool) (t : Int) (l : List Int) (hl : l.length ≤ 60) : decide ((60 : Int) < (↑(List.map iD l).length : Int)) = false ∧ (0 : Int) ≤ wr IntKind.u64 t ∧ (0 : Int) < (1000001 : Int) ∧ inK IntKind.i64 (wr IntKind.u64 t % (1000001 : Int)) ∧ ∃ (b : List Int × List Int), b.fst.length + b.snd.length ≤ (60 : Nat) ∧ ((D.int IntKind.i64 (spT0 t) = D.int IntKind.i64 (wr IntKind.u64 t % (1000001 : Int)) ∧ outD (0 : Nat) (List.map iD (List.map cv b.fst)) = D.sl true [] ∧ D.int IntKind.i64 (List.map cv b.fst).sum = D.int IntKind.i64 (0 : Int) ∧ D.sl f (List.map iD (b.fst ++ b.snd)) = D.sl f (List.map iD l) ∧ D.int IntKind.i64 (↑(List.map iD (b.fst ++ b.snd)).length : Int) = D.int IntKind.i64 (↑(List.map iD l).length : Int) ∧ D.int IntKind.i64 (↑b.fst.length : Int) = D.int IntKind.i64 (0 : Int)) ∧ (outO (1 : Nat) (List.map iD (List.map cv b.fst)) = none ∨ outO (1 : Nat) (List.map iD (List.map cv b.fst)) = none ∧ False)) ∧ (∀ (a : Unit), List.map cv (b.fst ++ b.snd) = [] → (rI (spT0 t) ∧ nilT D = [] ∧ (∀ (p : Int), List.Mem p (List.map dI []) → rI p) ∧ (0 : Nat) ≤ (100 : Nat)) ∧ (true = true → decide ((↑(List.map iD (spreadV (spT0 t) [])).length : Int) = (0 : Int)) = true ∧ True ∧ D.bool true = D.bool true) ∧ (true = false → decide ((↑(List.map iD (spreadV (spT0 t) [])).length : Int) ≠ (0 : Int)) = false ∧ ∃ (b : List Int × List Int), (Fair (spT0 t) (List.map cv l) (b.fst ++ b.snd) ∧ (List.map cv l).length ≤ (60 : Nat) ∧ (0 : Int) ≤ spT0 t ∧ spT0 t ≤ (1000000 : Int) ∧ ∀ (p : Int), List.Mem p (List.map cv l) → (0 : Int) ≤ p ∧ p ≤ (99999 : Int)) ∧ ((D.int IntKind.i64 (spT0 t) = D.int IntKind.i64 (spT0 t) ∧ D.ms (0 : Nat) (0 : Nat) (List.map cv l).length (List.map cv l).length false = D.sl true [] ∧ D.int IntKind.i64 (List.map cv l).sum = D.int IntKind.i64 (0 : Int) ∧ D.sl true (List.map iD (b.fst ++ b.snd)) = D.sl true (List.map iD (spreadV (spT0 t) [])) ∧ D.int IntKind.i64 b.fst.sum = D.int IntKind.i64 (0 : Int) ∧ D.sl true (List.map iD (b.fst ++ b.snd)) = D.sl true (List.map iD (spreadV (spT0 t) [])) ∧ D.int IntKind.i64 (↑(List.map iD (b.fst ++ b.snd)).length : Int) = D.int IntKind.i64 (↑(List.map iD (spreadV (spT0 t) [])).length : Int) ∧ D.int IntKind.i64 (↑b.fst.length : Int) = D.int IntKind.i64 (0 : Int)) ∧ (some (Ob.row St.cst (1 : Nat) (List.map iD (List.map cv l))) = none ∨ some (Ob.row St.cst (1 : Nat) (List.map iD (List.map cv l))) = none ∧ False)) ∧ ∀ (a : Unit), True → decide (spT0 t = spT0 t) = true ∧ True ∧ D.bool true = D.bool true)) ∧ ∀ (a : Int × List Int), List.map cv (b.fst ++ b.snd) = a.fst :: a.snd → (0 : Nat) + (List.map iD (a.fst :: a.snd)).length ≤ (List.map iD (a.fst :: a.snd)).length ∧ (List.take (List.map iD (a.fst :: a.snd)).length (List.drop (0 : Nat) (List.map iD (a.fst :: a.snd)))).all D.pure = true ∧ (rI (spT0 t) ∧ List.take (List.map iD (a.fst :: a.snd)).length (List.drop (0 : Nat) (List.map iD (a.fst :: a.snd))) = List.map iD (List.map dI (List.take (List.map iD (a.fst :: a.snd)).length (List.drop (0 : Nat) (List.map iD (a.fst :: a.snd))))) ∧ (∀ (p : Int), List.Mem p (List.map dI (List.take (List.map iD (a.fst :: a.snd)).length (List.drop (0 : Nat) (List.map iD (a.fst :: a.snd))))) → rI p) ∧ (List.take (List.map iD (a.fst :: a.snd)).length (List.drop (0 : Nat) (List.map iD (a.fst :: a.snd)))).length ≤ (100 : Nat)) ∧ (decide ((a.fst :: a.snd).sum = (0 : Int)) = true → decide ((↑(List.map iD (spreadV (spT0 t) (List.map dI (List.take (List.map iD (a.fst :: a.snd)).length (List.drop (0 : Nat) (List.map iD (a.fst :: a.snd))))))).length : Int) = (0 : Int)) = true ∧ True ∧ D.bool true = D.bool true) ∧ (decide ((a.fst :: a.snd).sum = (0 : Int)) = false → decide ((↑(List.map iD (spreadV (spT0 t) (List.map dI (List.take (List.map iD (a.fst :: a.snd)).length (List.drop (0 : Nat) (List.map iD (a.fst :: a.snd))))))).length : Int) ≠ (↑(List.map iD (a.fst :: a.snd)).length : Int)) = false ∧ ∃ (b : List Int × List Int), (Fair (spT0 t) (List.map cv l) (b.fst ++ b.snd) ∧ (List.map cv l).length ≤ (60 : Nat) ∧ (0 : Int) ≤ spT0 t ∧ spT0 t ≤ (1000000 : Int) ∧ ∀ (p : Int), List.Mem p (List.map cv l) → (0 : Int) ≤ p ∧ p ≤ (99999 : Int)) ∧ ((D.int IntKind.i64 (spT0 t) = D.int IntKind.i64 (spT0 t) ∧ D.ms (0 : Nat) (0 : Nat) (List.map cv l).length (List.map cv l).length false = D.ms (0 : Nat) (0 : Nat) (List.map iD (a.fst :: a.snd)).length (List.map iD (a.fst :: a.snd)).length false ∧ D.int IntKind.i64 (List.map cv l).sum = D.int IntKind.i64 (a.fst :: a.snd).sum ∧ D.sl true (List.map iD (b.fst ++ b.snd)) = D.sl true (List.map iD (spreadV (spT0 t) (List.map dI (List.take (List.map iD (a.fst :: a.snd)).length (List.drop (0 : Nat) (List.map iD (a.fst :: a.snd))))))) ∧ D.int IntKind.i64 b.fst.sum = D.int IntKind.i64 (0 : Int) ∧ D.sl true (List.map iD (b.fst ++ b.snd)) = D.sl true (List.map iD (spreadV (spT0 t) (List.map dI (List.take (List.map iD (a.fst :: a.snd)).length (List.drop (0 : Nat) (List.map iD (a.fst :: a.snd))))))) ∧ D.int IntKind.i64 (↑(List.map iD (b.fst ++ b.snd)).length : Int) = D.int IntKind.i64 (↑(List.map iD (spreadV (spT0 t) (List.map dI (List.take (List.map iD (a.fst :: a.snd)).length (List.drop (0 : Nat) (List.map iD (a.fst :: a.snd))))))).length : Int) ∧ D.int IntKind.i64 (↑b.fst.length : Int) = D.int IntKind.i64 (0 : Int)) ∧ (some (Ob.row St.cst (1 : Nat) (List.map iD (List.map cv l))) = none ∨ some (Ob.row St.cst (1 : Nat) (List.map iD (List.map cv l))) = some (Ob.row St.cst (1 : Nat) (List.map iD (a.fst :: a.snd))) ∧ (List.map iD (a.fst :: a.snd)).all D.pure = true)) ∧ ∀ (a : Unit), True → decide (spT0 t = spT0 t) = true ∧ True ∧ D.bool true = D.bool true) := by
  have t0 : 0 ≤ spT0 t ∧ spT0 t ≤ 1000000 := by unfold spT0; omega
  have t1 : wr .u64 t % 1000001 = spT0 t := rfl
  have hr : rI (spT0 t) := by unfold rI; omega
  rw [t1]
  refine ⟨by simp; omega, wr_u t, by omega, by simp only [inK]; omega, ([], l), by simpa using hl, ⟨⟨rfl, rfl, rfl, rfl, rfl, rfl⟩, .inl rfl⟩, fun _ h => ?_, ?_⟩
  · exact ⟨⟨hr, rfl, (fun p hp => by cases hp), by omega⟩, fun _ => ⟨by simp [spreadV, sumV, tot]; right; right; left; rfl, trivial, rfl⟩, fun h => by cases h⟩
  · rintro ⟨p, r⟩ h
    have h : l.map cv = p :: r := h
    simp only [List.drop_zero, List.take_length, h, map_dI]
    have hq : ∀ x ∈ p :: r, 0 ≤ x ∧ x ≤ 99999 := by
      intro x hx
      rw [← h] at hx
      obtain ⟨y, _, rfl⟩ := List.mem_map.1 hx
      exact cv_bound y
    have hlen : (p :: r).length ≤ 60 := by rw [← h, List.length_map]; exact hl
    obtain ⟨q1, q2⟩ := sum_small hq
    generalize p :: r = q at *
    refine ⟨by omega, pure_iD _, ⟨hr, (by trivial), fun x hx => ?_, ?_⟩, chks (fun h0 => ⟨?_, trivial, (by trivial)⟩) fun h0 => ?_⟩
    · have := hq x hx; unfold rI; omega
    · rw [List.length_map]; omega
    · have : spreadV (spT0 t) q = [] := by
        unfold spreadV
        rw [if_pos]
        refine .inr (.inr (.inl ?_))
        unfold sumV
        rw [tot_pos fun x hx => (hq x hx).1, h0]; rfl
      rw [this]; rfl
    · have hf := fair_spread t0.1 t0.2 hq hlen (by omega)
      have hfl := hf.len
      exact ⟨by simp [hfl], ([], spreadV (spT0 t) q), ⟨hf, hlen, t0.1, t0.2, hq⟩, ⟨⟨(by trivial), by simp, (by trivial), (by trivial), (by trivial), (by trivial), (by trivial), (by trivial)⟩, .inr ⟨(by trivial), pure_iD _⟩⟩, fun _ _ => ⟨by simp, trivial, (by trivial)⟩⟩
theorem spBigN (f : Bool) (t : Int) (l : List Int) (hl : 60 < l.length) : decide ((60 : Int) < (↑(List.map iD l).length : Int)) = true ∧ True ∧ D.bool true = D.bool true := ⟨by simp; omega, trivial, rfl⟩
theorem ratioSpreads_law {x0 : List D} (o0 : OkL reachBytes [.int .i64] x0) {x1 : List D} (o1 : OkL reachBytes [.sl false [.int .i64]] x1) : DataFun Try.prog 17 [vOf false x0, vOf false x1] (.bool true) := by
  obtain ⟨t, rfl, ht⟩ := okl1_int o0
  obtain ⟨f, l, rfl, hl, _⟩ := okl1_ints o1
  rcases Nat.lt_or_ge 60 l.length with h | h
  · exact dataFunL (C := cfgH spLawC [(16, .t)]) (ctrs_ok spLawC rfl rfl) rfl Try.func17 (by kernel_rfl) (l := [lp Try.f17 7, lp Try.f17 20]) (by kernel_rfl) (fun x _ row hr => by cases hr) (by kernel_rfl) (by kernel_rfl) (by kernel_rfl) (spBigN f t l h)
  · refine dataFunL (C := spCfg f t l) (ctrs_ok spLawC rfl rfl) rfl Try.func17 (by kernel_rfl) (l := [lp Try.f17 7, lp Try.f17 20]) (by kernel_rfl) ?_ (by kernel_rfl) (by kernel_rfl) (by kernel_rfl) (spLawN f t l h)
    intro x hx
    simp only [List.mem_cons, List.not_mem_nil, or_false] at hx
    rcases hx with rfl | rfl
    · exact (spL7 f (spT0 t)).fits 7 [(0, true)] (by kernel_rfl) rfl (spL7R f (spT0 t))
    · exact (spL20 (spT0 t) (l.map cv)).fits 20 [(0, true)] (by kernel_rfl) rfl (spL20R (spT0 t) (l.map cv))
end Go.Proofs.Ytfjgngdomjjpgaa.Dv
