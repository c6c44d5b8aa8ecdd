/- zone.Names: the zones of some hosts, in order, each once. -/
import Derived.Test.YtgibpomhiilehaaN1
import Derived.Test.YtgibpomhiilehaaM9
set_option linter.unusedVariables false
set_option linter.unusedSimpArgs false
namespace Go.Proofs.Ytgibpomhiilehaa.Dv
open Go Go.Proofs
def insN (z : ByteArray) (l : List ByteArray) : List ByteArray := if hasB z l then l else l.take (posB z l) ++ z :: l.drop (posB z l)
def zNames (l : List Stat) : List ByteArray := l.foldl (fun acc t => insN t.zone acc) []
theorem zNames_snoc (l : List Stat) (t : Stat) : zNames (l ++ [t]) = insN t.zone (zNames l) := by unfold zNames; rw [List.foldl_append]; rfl
theorem insN_split {z : ByteArray} {l : List ByteArray} (h : Srt l) (hz : z ∉ l) : ∃ A B, l = A ++ B ∧ A.length = posB z l ∧ insN z l = A ++ z :: B ∧ (∀ a ∈ A, lessB a z = true) ∧ (∀ b ∈ B, lessB z b = true) := by
  obtain ⟨A, B, e, e1, e2, e3, e4⟩ := srt_split z h
  refine ⟨A, B, e, e1, ?_, e2, fun b hb => ?_⟩
  · unfold insN
    rw [if_neg (by rw [hasB_not.2 hz]; simp), ← e1, e, List.take_left' rfl, List.drop_left' rfl]
  · cases hzb : lessB z b with
    | true => rfl
    | false =>
      have := lessB_tri hzb (e3 b hb)
      subst this
      exact absurd (by rw [e]; exact List.mem_append_right _ hb) hz
theorem insN_srt {z : ByteArray} {l : List ByteArray} (h : Srt l) : Srt (insN z l) := by
  by_cases hz : z ∈ l
  · unfold insN; rw [if_pos (hasB_iff.2 hz)]; exact h
  · obtain ⟨A, B, rfl, _, e, h1, h2⟩ := insN_split h hz
    rw [e]
    unfold Srt at *
    rw [List.pairwise_append] at h ⊢
    obtain ⟨k1, k2, k3⟩ := h
    refine ⟨k1, List.pairwise_cons.2 ⟨h2, k2⟩, fun a ha b hb => ?_⟩
    rcases List.mem_cons.1 hb with rfl | hb
    · exact h1 a ha
    · exact k3 a ha b hb
theorem insN_mem {z y : ByteArray} {l : List ByteArray} : y ∈ insN z l ↔ y = z ∨ y ∈ l := by
  unfold insN
  split
  · rename_i h
    have h := hasB_iff.1 h
    constructor
    · exact .inr
    · rintro (rfl | h')
      · exact h
      · exact h'
  · rw [List.mem_append, List.mem_cons]
    have e := List.take_append_drop (posB z l) l
    constructor
    · rintro (h | rfl | h)
      · exact .inr (List.mem_of_mem_take h)
      · exact .inl rfl
      · exact .inr (List.mem_of_mem_drop h)
    · rintro (rfl | h)
      · exact .inr (.inl rfl)
      · rw [← e] at h
        rcases List.mem_append.1 h with h | h
        · exact .inl h
        · exact .inr (.inr h)
theorem insN_len (z : ByteArray) (l : List ByteArray) : (insN z l).length ≤ l.length + 1 := by
  unfold insN
  split
  · omega
  · rw [List.length_append, List.length_cons, List.length_take, List.length_drop]; omega
theorem zNames_all : ∀ (l : List Stat), Srt (zNames l) ∧ (zNames l).length ≤ l.length ∧ ∀ z, z ∈ zNames l ↔ ∃ t ∈ l, t.zone = z := by
  intro l
  rw [← List.reverse_reverse l]
  generalize l.reverse = m
  induction m with
  | nil => exact ⟨List.Pairwise.nil, Nat.le_refl _, by simp [zNames]⟩
  | cons t m ih =>
    rw [List.reverse_cons, zNames_snoc]
    obtain ⟨h1, h2, h3⟩ := ih
    refine ⟨insN_srt h1, ?_, fun z => ?_⟩
    · have := insN_len t.zone (zNames m.reverse)
      rw [List.length_append, List.length_singleton]
      omega
    · rw [insN_mem, h3]
      constructor
      · rintro (rfl | ⟨u, hu, e⟩)
        · exact ⟨t, by simp, rfl⟩
        · exact ⟨u, List.mem_append_left _ hu, e⟩
      · rintro ⟨u, hu, e⟩
        rcases List.mem_append.1 hu with hu | hu
        · exact .inr ⟨u, hu, e⟩
        · rw [List.mem_singleton.1 hu] at e; exact .inl e.symm
def nmL (f : Bool) (all : List Stat) : WLoop :=
  { St := List Stat × List Stat × List ByteArray
    O := List ByteArray
    T := fun s => [(3, outD 0 (s.2.2.map strD)), (8, .sl f (all.map statD)), (9, .int .i64 (all.map statD).length), (10, .int .i64 s.1.length)]
    S := fun s => [outO 1 (s.2.2.map strD)]
    ok := fun s => s.1 ++ s.2.1 = all ∧ zNames s.1 = s.2.2 ∧ all.length ≤ 1000
    μ := fun s => s.2.1.length
    m := fun _ => zNames all
    src := [(0, true)]
    alts := [[(3, true)]]
    outs := [{ α := Unit, is := fun o _ => o = [], ex := .exit 0, T := fun _ => [(3, .sl true [])] },
      { α := ByteArray × List ByteArray, is := fun o a => o = a.1 :: a.2, ex := .exit 0, src := [(0, true)], T := fun a => [(3, outD 0 ((a.1 :: a.2).map strD))], S := fun a => [outO 1 ((a.1 :: a.2).map strD)] }] }
theorem nmR (f : Bool) (all : List Stat) (s : (nmL f all).St) (hs : (nmL f all).ok s) : Tri Try.prog 0 33 (lp Try.f20 3) (tb ((nmL f all).T s)) ((nmL f all).S s) ((nmL f all).q 0 s) := by
  obtain ⟨a, r, u⟩ := s
  obtain ⟨h1, h2, h3⟩ := hs
  simp only at h1 h2
  cases r with
  | nil =>
    rw [List.append_nil] at h1
    subst h1
    cases u with
    | nil =>
      refine round0 (C := nCfg 0 [bsC] [] [(11, .f)]) (ctrs_ok ([bsC]) rfl rfl) (by kernel_rfl) (by kernel_rfl) (q := decide ((↑a.length : Int) < (↑(List.map statD a).length : Int)) = false ∧ ((∃ (a_1 : Unit), zNames a = [] ∧ D.sl true [] = D.sl true []) ∨ ∃ (a_1 : ByteArray × List ByteArray), zNames a = a_1.fst :: a_1.snd ∧ D.ms (0 : Nat) (0 : Nat) (List.map strD (a_1.fst :: a_1.snd)).length (List.map strD (a_1.fst :: a_1.snd)).length false = D.sl true [] ∧ (some (Ob.row St.own (1 : Nat) (List.map strD (a_1.fst :: a_1.snd))) = none ∨ some (Ob.row St.own (1 : Nat) (List.map strD (a_1.fst :: a_1.snd))) = none ∧ False))) (by kernel_rfl) ?_
      exact ⟨by simp, .inl ⟨(), h2, rfl⟩⟩
    | cons y ys =>
      refine round0 (C := nCfg 0 [bsC] [] [(11, .f)]) (ctrs_ok ([bsC]) rfl rfl) (by kernel_rfl) (by kernel_rfl) (q := decide ((↑a.length : Int) < (↑(List.map statD a).length : Int)) = false ∧ ((∃ (a_1 : Unit), zNames a = [] ∧ D.sl true [] = D.any) ∨ ∃ (a_1 : ByteArray × List ByteArray), zNames a = a_1.fst :: a_1.snd ∧ D.ms (0 : Nat) (0 : Nat) (List.map strD (a_1.fst :: a_1.snd)).length (List.map strD (a_1.fst :: a_1.snd)).length false = D.ms (0 : Nat) (0 : Nat) (List.map strD (y :: ys)).length (List.map strD (y :: ys)).length false ∧ (some (Ob.row St.own (1 : Nat) (List.map strD (a_1.fst :: a_1.snd))) = none ∨ some (Ob.row St.own (1 : Nat) (List.map strD (a_1.fst :: a_1.snd))) = some (Ob.row St.own (1 : Nat) (List.map strD (y :: ys))) ∧ (List.map strD (y :: ys)).all D.pure = true))) (by kernel_rfl) ?_
      exact ⟨by simp, .inr ⟨(y, ys), h2, rfl, .inr ⟨rfl, pure_strD _⟩⟩⟩
  | cons t r =>
    have hl : a.length + (r.length + 1) ≤ 1000 := by rw [← h1] at h3; simpa using h3
    have hall : (a ++ [t]) ++ r = all := by rw [← h1]; simp
    have hg : (List.map statD all)[((a.length : Int)).toNat]? = some (statD t) := by rw [← h1]; exact get_midI statD a t r
    have hll : ((a.length : Int) < ((List.map statD all).length : Int)) := by rw [← h1]; simp; omega
    have hix : D.int .i64 ((a ++ [t]).length : Int) = D.int .i64 ((a.length : Int) + 1) := by simp
    have hin : inK .i64 ((a.length : Int) + 1) := by simp only [inK]; omega
    obtain ⟨g1, g2, _⟩ := zNames_all a
    have hsn := zNames_snoc a t
    rw [h2] at g1 g2 hsn
    cases u with
    | nil =>
      refine round0 (C := nCfg 0 [bsC] [insStrC] [(11, .t)]) (ctrsR_ok [bsC] [insStrC] rfl rfl rfl rfl) (by kernel_rfl) (by kernel_rfl) (q := decide ((↑a.length : Int) < (↑(List.map statD all).length : Int)) = true ∧ ∃ (y : Stat), (0 : Int) ≤ (↑a.length : Int) ∧ (List.map statD all)[(↑a.length : Int).toNat]? = some (D.agg [D.int IntKind.i64 y.id, D.str y.addr, D.int IntKind.i64 y.prio, D.str y.zone, D.int IntKind.i64 y.w, D.sl y.f (List.map pairD y.mt), D.bool y.up, D.int IntKind.i64 y.run, D.int IntKind.i64 y.forced, D.int IntKind.i64 y.wait, D.int IntKind.i64 y.errors, D.int IntKind.i64 y.bok, D.int IntKind.i64 y.ball, D.bool y.out, D.int IntKind.i64 y.frm, D.int IntKind.i64 y.till, D.int IntKind.i64 y.times, D.bool y.drains, D.int IntKind.i64 y.gone, D.int IntKind.i64 y.since, D.int IntKind.i64 y.active]) ∧ (∃ (l : List ByteArray), nilT D = List.map strD l ∧ l.length ≤ (1000 : Nat) ∧ List.Pairwise (fun (a b : ByteArray) => lessB a b = true) l) ∧ (true = true → ((0 : Int) = (0 : Int) ∧ true = true ∧ true = true ∧ (16 : Nat) ≤ (140737488355328 : Nat)) ∧ inK IntKind.i64 ((↑a.length : Int) + (1 : Int)) ∧ ((∃ (s' : List Stat × List Stat × List ByteArray), (s'.fst ++ s'.snd.fst = all ∧ zNames s'.fst = s'.snd.snd ∧ all.length ≤ (1000 : Nat)) ∧ s'.snd.fst.length.succ ≤ (t :: r).length ∧ zNames all = zNames all ∧ (outD (0 : Nat) (List.map strD s'.snd.snd) = D.any ∧ D.sl f (List.map statD all) = D.sl f (List.map statD all) ∧ D.int IntKind.i64 (↑(List.map statD all).length : Int) = D.int IntKind.i64 (↑(List.map statD all).length : Int) ∧ D.int IntKind.i64 (↑s'.fst.length : Int) = D.int IntKind.i64 ((↑a.length : Int) + (1 : Int))) ∧ (outO (1 : Nat) (List.map strD s'.snd.snd) = none ∨ outO (1 : Nat) (List.map strD s'.snd.snd) = none ∧ False)) ∨ ∃ (s' : List Stat × List Stat × List ByteArray), (s'.fst ++ s'.snd.fst = all ∧ zNames s'.fst = s'.snd.snd ∧ all.length ≤ (1000 : Nat)) ∧ s'.snd.fst.length.succ ≤ (t :: r).length ∧ zNames all = zNames all ∧ (outD (0 : Nat) (List.map strD s'.snd.snd) = D.ms (0 : Nat) (0 : Nat) (1 : Nat) (1 : Nat) false ∧ D.sl f (List.map statD all) = D.sl f (List.map statD all) ∧ D.int IntKind.i64 (↑(List.map statD all).length : Int) = D.int IntKind.i64 (↑(List.map statD all).length : Int) ∧ D.int IntKind.i64 (↑s'.fst.length : Int) = D.int IntKind.i64 ((↑a.length : Int) + (1 : Int))) ∧ (outO (1 : Nat) (List.map strD s'.snd.snd) = none ∨ outO (1 : Nat) (List.map strD s'.snd.snd) = some (Ob.row St.own (1 : Nat) [D.str y.zone]) ∧ true = true))) ∧ (true = false → inK IntKind.i64 ((↑a.length : Int) + (1 : Int)) ∧ ((∃ (s' : List Stat × List Stat × List ByteArray), (s'.fst ++ s'.snd.fst = all ∧ zNames s'.fst = s'.snd.snd ∧ all.length ≤ (1000 : Nat)) ∧ s'.snd.fst.length.succ ≤ (t :: r).length ∧ zNames all = zNames all ∧ (outD (0 : Nat) (List.map strD s'.snd.snd) = D.sl true [] ∧ D.sl f (List.map statD all) = D.sl f (List.map statD all) ∧ D.int IntKind.i64 (↑(List.map statD all).length : Int) = D.int IntKind.i64 (↑(List.map statD all).length : Int) ∧ D.int IntKind.i64 (↑s'.fst.length : Int) = D.int IntKind.i64 ((↑a.length : Int) + (1 : Int))) ∧ (outO (1 : Nat) (List.map strD s'.snd.snd) = none ∨ outO (1 : Nat) (List.map strD s'.snd.snd) = none ∧ False)) ∨ ∃ (s' : List Stat × List Stat × List ByteArray), (s'.fst ++ s'.snd.fst = all ∧ zNames s'.fst = s'.snd.snd ∧ all.length ≤ (1000 : Nat)) ∧ s'.snd.fst.length.succ ≤ (t :: r).length ∧ zNames all = zNames all ∧ (outD (0 : Nat) (List.map strD s'.snd.snd) = D.sl true [] ∧ D.sl f (List.map statD all) = D.sl f (List.map statD all) ∧ D.int IntKind.i64 (↑(List.map statD all).length : Int) = D.int IntKind.i64 (↑(List.map statD all).length : Int) ∧ D.int IntKind.i64 (↑s'.fst.length : Int) = D.int IntKind.i64 ((↑a.length : Int) + (1 : Int))) ∧ (outO (1 : Nat) (List.map strD s'.snd.snd) = none ∨ outO (1 : Nat) (List.map strD s'.snd.snd) = none ∧ False)))) (by kernel_rfl) ?_
      refine ⟨decide_eq_true hll, t, by omega, hg, ⟨[], rfl, by simp, List.Pairwise.nil⟩, fun _ => ⟨⟨rfl, rfl, rfl, by omega⟩, hin, .inr ⟨(a ++ [t], r, [t.zone]), ⟨hall, hsn, h3⟩, Nat.le_refl _, rfl, ⟨rfl, rfl, rfl, hix⟩, .inr ⟨rfl, rfl⟩⟩⟩, fun h => by cases h⟩
    | cons y ys =>
      refine round0 (C := nCfg 0 [bsC] [insStrC] [(11, .t)]) (ctrsR_ok [bsC] [insStrC] rfl rfl rfl rfl) (by kernel_rfl) (by kernel_rfl) (q := decide ((↑a.length : Int) < (↑(List.map statD all).length : Int)) = true ∧ ∃ (y_1 : Stat), (0 : Int) ≤ (↑a.length : Int) ∧ (List.map statD all)[(↑a.length : Int).toNat]? = some (D.agg [D.int IntKind.i64 y_1.id, D.str y_1.addr, D.int IntKind.i64 y_1.prio, D.str y_1.zone, D.int IntKind.i64 y_1.w, D.sl y_1.f (List.map pairD y_1.mt), D.bool y_1.up, D.int IntKind.i64 y_1.run, D.int IntKind.i64 y_1.forced, D.int IntKind.i64 y_1.wait, D.int IntKind.i64 y_1.errors, D.int IntKind.i64 y_1.bok, D.int IntKind.i64 y_1.ball, D.bool y_1.out, D.int IntKind.i64 y_1.frm, D.int IntKind.i64 y_1.till, D.int IntKind.i64 y_1.times, D.bool y_1.drains, D.int IntKind.i64 y_1.gone, D.int IntKind.i64 y_1.since, D.int IntKind.i64 y_1.active]) ∧ (0 : Nat) + (List.map strD (y :: ys)).length ≤ (List.map strD (y :: ys)).length ∧ (List.take (List.map strD (y :: ys)).length (List.drop (0 : Nat) (List.map strD (y :: ys)))).all D.pure = true ∧ (∃ (l : List ByteArray), List.take (List.map strD (y :: ys)).length (List.drop (0 : Nat) (List.map strD (y :: ys))) = List.map strD l ∧ l.length ≤ (1000 : Nat) ∧ List.Pairwise (fun (a b : ByteArray) => lessB a b = true) l) ∧ ((!hasB y_1.zone (List.map dStr (List.take (List.map strD (y :: ys)).length (List.drop (0 : Nat) (List.map strD (y :: ys)))))) = true → ((0 : Int) ≤ (↑(posB y_1.zone (List.map dStr (List.take (List.map strD (y :: ys)).length (List.drop (0 : Nat) (List.map strD (y :: ys)))))) : Int) ∧ (↑(posB y_1.zone (List.map dStr (List.take (List.map strD (y :: ys)).length (List.drop (0 : Nat) (List.map strD (y :: ys)))))) : Int) ≤ (↑(List.map strD (y :: ys)).length : Int) ∧ (List.map strD (y :: ys)).length = (List.map strD (y :: ys)).length ∧ ((List.map strD (y :: ys)).all D.pure = true ∧ true = true) ∧ ((List.map strD (y :: ys)).all (okEl (1 : Nat)) = true ∧ true = true) ∧ ((List.map strD (y :: ys)).length + (1 : Nat)) * (16 : Nat) ≤ (140737488355328 : Nat)) ∧ inK IntKind.i64 ((↑a.length : Int) + (1 : Int)) ∧ ((∃ (s' : List Stat × List Stat × List ByteArray), (s'.fst ++ s'.snd.fst = all ∧ zNames s'.fst = s'.snd.snd ∧ all.length ≤ (1000 : Nat)) ∧ s'.snd.fst.length.succ ≤ (t :: r).length ∧ zNames all = zNames all ∧ (outD (0 : Nat) (List.map strD s'.snd.snd) = D.any ∧ D.sl f (List.map statD all) = D.sl f (List.map statD all) ∧ D.int IntKind.i64 (↑(List.map statD all).length : Int) = D.int IntKind.i64 (↑(List.map statD all).length : Int) ∧ D.int IntKind.i64 (↑s'.fst.length : Int) = D.int IntKind.i64 ((↑a.length : Int) + (1 : Int))) ∧ (outO (1 : Nat) (List.map strD s'.snd.snd) = none ∨ outO (1 : Nat) (List.map strD s'.snd.snd) = none ∧ False)) ∨ ∃ (s' : List Stat × List Stat × List ByteArray), (s'.fst ++ s'.snd.fst = all ∧ zNames s'.fst = s'.snd.snd ∧ all.length ≤ (1000 : Nat)) ∧ s'.snd.fst.length.succ ≤ (t :: r).length ∧ zNames all = zNames all ∧ (outD (0 : Nat) (List.map strD s'.snd.snd) = D.ms (0 : Nat) (0 : Nat) ((List.map strD (y :: ys)).length + (1 : Nat)) ((List.map strD (y :: ys)).length + (1 : Nat)) false ∧ D.sl f (List.map statD all) = D.sl f (List.map statD all) ∧ D.int IntKind.i64 (↑(List.map statD all).length : Int) = D.int IntKind.i64 (↑(List.map statD all).length : Int) ∧ D.int IntKind.i64 (↑s'.fst.length : Int) = D.int IntKind.i64 ((↑a.length : Int) + (1 : Int))) ∧ (outO (1 : Nat) (List.map strD s'.snd.snd) = none ∨ outO (1 : Nat) (List.map strD s'.snd.snd) = some (Ob.row St.own (1 : Nat) (List.take (↑(posB y_1.zone (List.map dStr (List.take (List.map strD (y :: ys)).length (List.drop (0 : Nat) (List.map strD (y :: ys)))))) : Int).toNat (List.map strD (y :: ys)) ++ D.str y_1.zone :: List.drop (↑(posB y_1.zone (List.map dStr (List.take (List.map strD (y :: ys)).length (List.drop (0 : Nat) (List.map strD (y :: ys)))))) : Int).toNat (List.map strD (y :: ys)))) ∧ (List.take (↑(posB y_1.zone (List.map dStr (List.take (List.map strD (y :: ys)).length (List.drop (0 : Nat) (List.map strD (y :: ys)))))) : Int).toNat (List.map strD (y :: ys)) ++ D.str y_1.zone :: List.drop (↑(posB y_1.zone (List.map dStr (List.take (List.map strD (y :: ys)).length (List.drop (0 : Nat) (List.map strD (y :: ys)))))) : Int).toNat (List.map strD (y :: ys))).all D.pure = true))) ∧ ((!hasB y_1.zone (List.map dStr (List.take (List.map strD (y :: ys)).length (List.drop (0 : Nat) (List.map strD (y :: ys)))))) = false → inK IntKind.i64 ((↑a.length : Int) + (1 : Int)) ∧ ((∃ (s' : List Stat × List Stat × List ByteArray), (s'.fst ++ s'.snd.fst = all ∧ zNames s'.fst = s'.snd.snd ∧ all.length ≤ (1000 : Nat)) ∧ s'.snd.fst.length.succ ≤ (t :: r).length ∧ zNames all = zNames all ∧ (outD (0 : Nat) (List.map strD s'.snd.snd) = D.ms (0 : Nat) (0 : Nat) (List.map strD (y :: ys)).length (List.map strD (y :: ys)).length false ∧ D.sl f (List.map statD all) = D.sl f (List.map statD all) ∧ D.int IntKind.i64 (↑(List.map statD all).length : Int) = D.int IntKind.i64 (↑(List.map statD all).length : Int) ∧ D.int IntKind.i64 (↑s'.fst.length : Int) = D.int IntKind.i64 ((↑a.length : Int) + (1 : Int))) ∧ (outO (1 : Nat) (List.map strD s'.snd.snd) = none ∨ outO (1 : Nat) (List.map strD s'.snd.snd) = some (Ob.row St.own (1 : Nat) (List.map strD (y :: ys))) ∧ (List.map strD (y :: ys)).all D.pure = true)) ∨ ∃ (s' : List Stat × List Stat × List ByteArray), (s'.fst ++ s'.snd.fst = all ∧ zNames s'.fst = s'.snd.snd ∧ all.length ≤ (1000 : Nat)) ∧ s'.snd.fst.length.succ ≤ (t :: r).length ∧ zNames all = zNames all ∧ (outD (0 : Nat) (List.map strD s'.snd.snd) = D.any ∧ D.sl f (List.map statD all) = D.sl f (List.map statD all) ∧ D.int IntKind.i64 (↑(List.map statD all).length : Int) = D.int IntKind.i64 (↑(List.map statD all).length : Int) ∧ D.int IntKind.i64 (↑s'.fst.length : Int) = D.int IntKind.i64 ((↑a.length : Int) + (1 : Int))) ∧ (outO (1 : Nat) (List.map strD s'.snd.snd) = none ∨ outO (1 : Nat) (List.map strD s'.snd.snd) = none ∧ False)))) (by kernel_rfl) ?_
      rw [show List.take (List.map strD (y :: ys)).length (List.drop 0 (List.map strD (y :: ys))) = List.map strD (y :: ys) by rw [List.drop_zero, List.take_length], map_dStr]
      have hul : (y :: ys).length ≤ 1000 := by omega
      refine ⟨decide_eq_true hll, t, by omega, hg, by omega, pure_strD _, ⟨y :: ys, rfl, hul, g1⟩, fun hz => ?_, fun hz => ?_⟩
      · have hz : t.zone ∉ y :: ys := hasB_not.1 (by simpa using hz)
        obtain ⟨A, B, e, e1, e2, _, _⟩ := insN_split g1 hz
        have hlen : (y :: ys).length = A.length + B.length := by rw [e, List.length_append]
        have hrow : List.take ((posB t.zone (y :: ys) : Int)).toNat (List.map strD (y :: ys)) ++ D.str t.zone :: List.drop ((posB t.zone (y :: ys) : Int)).toNat (List.map strD (y :: ys)) = List.map strD (insN t.zone (y :: ys)) := by
          rw [Int.toNat_natCast, ← e1, e2, e, List.map_append, List.take_left' (List.length_map ..), List.drop_left' (List.length_map ..), List.map_append, List.map_cons]
          rfl
        have hil : (List.map strD (insN t.zone (y :: ys))).length = (List.map strD (y :: ys)).length + 1 := by
          rw [List.length_map, List.length_map, e2, hlen, List.length_append, List.length_cons]; omega
        have hp := posB_le t.zone (y :: ys)
        refine ⟨⟨by omega, by rw [List.length_map]; omega, rfl, ⟨pure_strD _, rfl⟩, ⟨okEl_strD _, rfl⟩, by rw [List.length_map]; omega⟩, hin, .inr ⟨(a ++ [t], r, insN t.zone (y :: ys)), ⟨hall, hsn, h3⟩, Nat.le_refl _, rfl, ⟨outD_of hil, rfl, rfl, hix⟩, .inr ⟨?_, ?_⟩⟩⟩
        · rw [hrow]
          exact outO_of (by intro h; rw [h] at hil; simp at hil)
        · rw [hrow]
          exact pure_strD _
      · have hz : hasB t.zone (y :: ys) = true := by simpa using hz
        have hi : insN t.zone (y :: ys) = y :: ys := by unfold insN; rw [if_pos hz]
        exact ⟨hin, .inl ⟨(a ++ [t], r, y :: ys), ⟨hall, hsn.trans hi, h3⟩, Nat.le_refl _, rfl, ⟨rfl, rfl, rfl, hix⟩, .inr ⟨rfl, pure_strD _⟩⟩⟩
noncomputable def nmCfg (f : Bool) (l : List Stat) : WCfg := { nCfg 0 [bsC] [insStrC] [] with loops := fun k => match k with | 3 => some ((nmL f l).row [(0, true)]) | _ => none }
theorem nmN (f : Bool) (l : List Stat) (h : l.length ≤ 1000) : ∃ (b : List Stat × List Stat × List ByteArray), (b.fst ++ b.snd.fst = l ∧ zNames b.fst = b.snd.snd ∧ l.length ≤ (1000 : Nat)) ∧ ((outD (0 : Nat) (List.map strD b.snd.snd) = D.sl true [] ∧ D.sl f (List.map statD l) = D.sl f (List.map statD l) ∧ D.int IntKind.i64 (↑(List.map statD l).length : Int) = D.int IntKind.i64 (↑(List.map statD l).length : Int) ∧ D.int IntKind.i64 (↑b.fst.length : Int) = D.int IntKind.i64 (0 : Int)) ∧ (outO (1 : Nat) (List.map strD b.snd.snd) = none ∨ outO (1 : Nat) (List.map strD b.snd.snd) = none ∧ False)) ∧ (∀ (a : Unit), zNames l = [] → D.sl true [] = D.sl (zNames l).isEmpty (List.map strD (zNames l))) ∧ ∀ (a : ByteArray × List ByteArray), zNames l = a.fst :: a.snd → (0 : Nat) + (List.map strD (a.fst :: a.snd)).length ≤ (List.map strD (a.fst :: a.snd)).length ∧ (List.take (List.map strD (a.fst :: a.snd)).length (List.drop (0 : Nat) (List.map strD (a.fst :: a.snd)))).all D.pure = true ∧ D.sl false (List.take (List.map strD (a.fst :: a.snd)).length (List.drop (0 : Nat) (List.map strD (a.fst :: a.snd)))) = D.sl (zNames l).isEmpty (List.map strD (zNames l)) := by
  refine ⟨([], l, []), ⟨rfl, rfl, h⟩, ⟨?_, .inl rfl⟩, fun _ h => by rw [h]; rfl, fun a h => ?_⟩
  · repeat' apply And.intro
    all_goals rfl
  · rw [h, List.drop_zero, List.take_length]
    exact ⟨by omega, pure_strD _, rfl⟩
def nmS (vs : List D) : Option DOut := match vs with | [.sl f xs] => some ⟨∃ l : List Stat, xs = l.map statD ∧ l.length ≤ 1000, .sl (zNames (xs.map dStat)).isEmpty ((zNames (xs.map dStat)).map strD)⟩ | _ => none
/-- zone.Names. -/
def nmC : Ctr := ⟨20, nmS, by
  intro vs o ho hp
  unfold nmS at ho
  split at ho
  · rename_i f xs
    injection ho with ho; subst ho
    obtain ⟨l, rfl, h1⟩ := hp
    simp only [map_dStat]
    refine dataFunL (C := nmCfg f l) (ctrsR_ok [bsC] [insStrC] rfl rfl rfl rfl) rfl Try.func20 (by kernel_rfl) (l := [lp Try.f20 3]) (by kernel_rfl) ?_ (by kernel_rfl) (by kernel_rfl) (by kernel_rfl) (nmN f l h1)
    intro x hx
    rw [List.mem_singleton.1 hx]
    exact (nmL f l).fits 3 [(0, true)] (by kernel_rfl) rfl (nmR f l)
  · cases ho⟩
end Go.Proofs.Ytgibpomhiilehaa.Dv
