/- load.counts. -/
import Derived.Test.YtgibpomhiilehaaNA
import Derived.Test.YtgibpomhiilehaaA7
set_option linter.unusedVariables false
set_option linter.unusedSimpArgs false
namespace Go.Proofs.Ytgibpomhiilehaa.Dv
open Go Go.Proofs
def incC (k : Nat) (fr : Bool) (l : List Cnt) : List Cnt := match l[k]? with
  | some c => l.set k (c.1, c.2.1 + 1, c.2.2 + if fr then 1 else 0)
  | none => l
def addC (t : Stat) (l : List Cnt) : List Cnt :=
  if t.prio < 0 ∨ 3 < t.prio then l else incC (posC t.prio l) (freeT t) (if hasC t.prio l then l else l.take (posC t.prio l) ++ (t.prio, 0, 0) :: l.drop (posC t.prio l))
def cnts (ms : List Stat) : List Cnt := ms.foldl (fun acc t => addC t acc) []
theorem cnts_snoc (l : List Stat) (t : Stat) : cnts (l ++ [t]) = addC t (cnts l) := by unfold cnts; rw [List.foldl_append]; rfl
theorem incC_mid (A B : List Cnt) (c : Cnt) (fr : Bool) (k : Nat) (h : A.length = k) : incC k fr (A ++ c :: B) = A ++ (c.1, c.2.1 + 1, c.2.2 + if fr then 1 else 0) :: B := by
  subst h
  unfold incC
  have hg : (A ++ c :: B)[A.length]? = some c := by simp
  rw [hg]
  exact set_mid A c _ B
theorem addC_split {t : Stat} {l : List Cnt} (h : SrtC l) (hp : ¬ (t.prio < 0 ∨ 3 < t.prio)) : ∃ A c B, A.length = posC t.prio l ∧ c.1 = t.prio ∧ addC t l = A ++ (c.1, c.2.1 + 1, c.2.2 + if freeT t then 1 else 0) :: B ∧ (∀ a ∈ A, a.1 < t.prio) ∧ (∀ b ∈ B, t.prio < b.1) ∧
    ((hasC t.prio l = true ∧ l = A ++ c :: B) ∨ (hasC t.prio l = false ∧ l = A ++ B ∧ c = (t.prio, 0, 0))) := by
  obtain ⟨A, B, e, e1, e2, e3, e4⟩ := srtC_split t.prio h
  cases hx : hasC t.prio l with
  | true =>
    obtain ⟨c, B', rfl, hc⟩ := e4.1 hx
    refine ⟨A, c, B', e1, hc, ?_, e2, fun b hb => ?_, .inl ⟨rfl, e⟩⟩
    · unfold addC
      rw [if_neg hp, hx, if_pos rfl]
      generalize posC t.prio l = k at e1
      rw [e]
      exact incC_mid A B' c _ _ e1
    · rw [e] at h
      have := (List.pairwise_cons.1 (List.pairwise_append.1 h).2.1).1 b hb
      omega
  | false =>
    have hB : ∀ b ∈ B, t.prio < b.1 := by
      intro b hb
      have h1 := e3 b hb
      rcases Int.lt_or_le t.prio b.1 with g | g
      · exact g
      · have : hasC t.prio l = true := hasC_iff.2 ⟨b, by rw [e]; exact List.mem_append_right _ hb, by omega⟩
        rw [hx] at this; cases this
    refine ⟨A, (t.prio, 0, 0), B, e1, rfl, ?_, e2, hB, .inr ⟨rfl, e, rfl⟩⟩
    unfold addC
    rw [if_neg hp, hx, if_neg (by simp)]
    have ht : l.take (posC t.prio l) ++ (t.prio, 0, 0) :: l.drop (posC t.prio l) = A ++ (t.prio, 0, 0) :: B := by
      rw [← e1]
      conv => lhs; rw [e]
      rw [List.take_left' rfl, List.drop_left' rfl]
    rw [ht]
    exact incC_mid A B _ _ _ e1
def nP (q : Int) (ms : List Stat) : Int := ((ms.filter fun t => decide (t.prio = q)).length : Int)
def nF (q : Int) (ms : List Stat) : Int := ((ms.filter fun t => decide (t.prio = q) && freeT t).length : Int)
theorem nP_snoc (q : Int) (ms : List Stat) (t : Stat) : nP q (ms ++ [t]) = nP q ms + if t.prio = q then 1 else 0 := by
  unfold nP
  rw [List.filter_append, List.length_append]
  by_cases h : t.prio = q <;> simp [h]
theorem nF_snoc (q : Int) (ms : List Stat) (t : Stat) : nF q (ms ++ [t]) = nF q ms + if t.prio = q ∧ freeT t = true then 1 else 0 := by
  unfold nF
  rw [List.filter_append, List.length_append]
  by_cases h : t.prio = q <;> cases hf : freeT t <;> simp [h, hf]
structure CntsOk (ms : List Stat) (l : List Cnt) : Prop where
  srt : SrtC l
  ent : ∀ c ∈ l, (0 ≤ c.1 ∧ c.1 ≤ 3) ∧ c.2.1 = nP c.1 ms ∧ c.2.2 = nF c.1 ms ∧ 1 ≤ c.2.1
  all : ∀ q, 0 ≤ q → q ≤ 3 → 0 < nP q ms → hasC q l = true
theorem cnts_ok : ∀ (ms : List Stat), CntsOk ms (cnts ms) := by
  intro ms
  rw [← List.reverse_reverse ms]
  generalize ms.reverse = m
  induction m with
  | nil => exact ⟨List.Pairwise.nil, by simp [cnts], by simp [nP]⟩
  | cons t m ih =>
    rw [List.reverse_cons, cnts_snoc]
    generalize hms : m.reverse = ms at *
    generalize hl : cnts ms = l at *
    obtain ⟨h1, h2, h3⟩ := ih
    by_cases hp : t.prio < 0 ∨ 3 < t.prio
    · have e : addC t l = l := by unfold addC; rw [if_pos hp]
      rw [e]
      refine ⟨h1, fun c hc => ?_, fun q q0 q3 hq => ?_⟩
      · obtain ⟨k1, k2, k3, k4⟩ := h2 c hc
        rw [nP_snoc, nF_snoc, if_neg (by omega), if_neg (by rintro ⟨g, _⟩; omega)]
        exact ⟨k1, by omega, by omega, k4⟩
      · rw [nP_snoc, if_neg (by omega)] at hq
        exact h3 q q0 q3 (by omega)
    · obtain ⟨A, c, B, e1, e2, e3, e4, e5, e6⟩ := addC_split h1 hp
      have hmem : ∀ x, x ∈ A ∨ x ∈ B → x ∈ l ∧ x.1 ≠ t.prio := by
        intro x hx
        rcases hx with hx | hx
        · refine ⟨?_, by have := e4 x hx; omega⟩
          rcases e6 with ⟨_, g⟩ | ⟨_, g, _⟩ <;> rw [g] <;> exact List.mem_append_left _ hx
        · refine ⟨?_, by have := e5 x hx; omega⟩
          rcases e6 with ⟨_, g⟩ | ⟨_, g, _⟩ <;> rw [g]
          · exact List.mem_append_right _ (List.mem_cons_of_mem _ hx)
          · exact List.mem_append_right _ hx
      have hc : c.2.1 = nP t.prio ms ∧ c.2.2 = nF t.prio ms := by
        rcases e6 with ⟨g0, g⟩ | ⟨g0, g, g'⟩
        · have := h2 c (by rw [g]; simp)
          rw [e2] at this
          exact ⟨this.2.1, this.2.2.1⟩
        · have h0 : ¬ 0 < nP t.prio ms := fun hh => by
            have := h3 t.prio (by omega) (by omega) hh
            rw [g0] at this; cases this
          have hn : 0 ≤ nP t.prio ms := by unfold nP; omega
          have hf : nF t.prio ms ≤ nP t.prio ms := by
            unfold nF nP
            have : (ms.filter fun u => decide (u.prio = t.prio) && freeT u).length ≤ (ms.filter fun u => decide (u.prio = t.prio)).length := by
              rw [show (ms.filter fun u => decide (u.prio = t.prio) && freeT u) = (ms.filter fun u => decide (u.prio = t.prio)).filter freeT by rw [List.filter_filter]; congr 1; funext u; rw [Bool.and_comm]]
              exact List.length_filter_le ..
            omega
          have hf0 : 0 ≤ nF t.prio ms := by unfold nF; omega
          rw [g']
          exact ⟨by simp only; omega, by simp only; omega⟩
      rw [e3]
      refine ⟨?_, fun x hx => ?_, fun q q0 q3 hq => ?_⟩
      · unfold SrtC at h1 ⊢
        have hAB : A.Pairwise (fun a b => a.1 < b.1) ∧ B.Pairwise (fun a b : Cnt => a.1 < b.1) := by
          rcases e6 with ⟨_, g⟩ | ⟨_, g, _⟩
          · rw [g] at h1
            have := List.pairwise_append.1 h1
            exact ⟨this.1, (List.pairwise_cons.1 this.2.1).2⟩
          · rw [g] at h1
            have := List.pairwise_append.1 h1
            exact ⟨this.1, this.2.1⟩
        refine List.pairwise_append.2 ⟨hAB.1, List.pairwise_cons.2 ⟨fun b hb => by have := e5 b hb; simp only; omega, hAB.2⟩, fun a ha b hb => ?_⟩
        have := e4 a ha
        rcases List.mem_cons.1 hb with rfl | hb
        · simp only; omega
        · have := e5 b hb; omega
      · rcases List.mem_append.1 hx with hx | hx
        · obtain ⟨m1, m2⟩ := hmem x (.inl hx)
          obtain ⟨k1, k2, k3, k4⟩ := h2 x m1
          rw [nP_snoc, nF_snoc, if_neg (fun g => m2 g.symm), if_neg (by rintro ⟨g, _⟩; exact m2 g.symm)]
          exact ⟨k1, by omega, by omega, k4⟩
        · rcases List.mem_cons.1 hx with rfl | hx
          · simp only
            rw [e2, nP_snoc, nF_snoc, if_pos rfl]
            have hn : 0 ≤ nP t.prio ms := by unfold nP; omega
            refine ⟨by omega, by omega, ?_, by omega⟩
            cases freeT t
            · rw [if_neg (by simp), if_neg (by simp)]; omega
            · rw [if_pos rfl, if_pos ⟨rfl, rfl⟩]; omega
          · obtain ⟨m1, m2⟩ := hmem x (.inr hx)
            obtain ⟨k1, k2, k3, k4⟩ := h2 x m1
            rw [nP_snoc, nF_snoc, if_neg (fun g => m2 g.symm), if_neg (by rintro ⟨g, _⟩; exact m2 g.symm)]
            exact ⟨k1, by omega, by omega, k4⟩
      · rw [hasC_iff]
        by_cases hqp : t.prio = q
        · exact ⟨(c.1, c.2.1 + 1, c.2.2 + if freeT t then 1 else 0), by simp, by simp only; omega⟩
        · rw [nP_snoc, if_neg hqp] at hq
          obtain ⟨x, hx, hxq⟩ := hasC_iff.1 (h3 q q0 q3 (by omega))
          refine ⟨x, ?_, hxq⟩
          rcases e6 with ⟨_, g⟩ | ⟨_, g, _⟩
          · rw [g] at hx
            rcases List.mem_append.1 hx with hx | hx
            · exact List.mem_append_left _ hx
            · rcases List.mem_cons.1 hx with rfl | hx
              · omega
              · exact List.mem_append_right _ (List.mem_cons_of_mem _ hx)
          · rw [g] at hx
            rcases List.mem_append.1 hx with hx | hx
            · exact List.mem_append_left _ hx
            · exact List.mem_append_right _ (List.mem_cons_of_mem _ hx)
theorem cnts_len (ms : List Stat) : (cnts ms).length ≤ ms.length := by
  rw [← List.reverse_reverse ms]
  generalize ms.reverse = m
  induction m with
  | nil => exact Nat.le_refl _
  | cons t m ih =>
    rw [List.reverse_cons, cnts_snoc, List.length_append, List.length_singleton]
    by_cases hp : t.prio < 0 ∨ 3 < t.prio
    · have e : addC t (cnts m.reverse) = cnts m.reverse := by unfold addC; rw [if_pos hp]
      rw [e]; omega
    · obtain ⟨A, c, B, e1, e2, e3, e4, e5, e6⟩ := addC_split (cnts_ok m.reverse).srt hp
      rw [e3, List.length_append, List.length_cons]
      rcases e6 with ⟨_, g⟩ | ⟨_, g, _⟩
      · rw [g, List.length_append, List.length_cons] at ih; omega
      · rw [g, List.length_append] at ih; omega
theorem cget {A B : List Cnt} {c : Cnt} {k : Nat} (h : A.length = k) : (List.map cntD (A ++ c :: B))[0 + ((k : Nat) : Int).toNat]? = some (cntD c) := by
  subst h
  rw [Nat.zero_add, Int.toNat_natCast]; simp
theorem cset {A B : List Cnt} {c : Cnt} {k : Nat} (h : A.length = k) (p a f : Int) : (List.map cntD (A ++ c :: B)).set (0 + ((k : Nat) : Int).toNat) (.agg [.int .i64 p, .int .i64 a, .int .i64 f]) = List.map cntD (A ++ (p, a, f) :: B) := by
  subst h
  rw [Nat.zero_add, Int.toNat_natCast]
  show (List.map cntD (A ++ c :: B)).set A.length (cntD (p, a, f)) = _
  rw [← List.map_set, set_mid]
noncomputable def coC : List Ctr := [bcC, freeC', stMbC]
def coL (g : Bool) (all : List Stat) : WLoop :=
  { St := List Stat × List Stat × List Cnt
    O := List Cnt
    T := fun s => [(3, outD 0 (s.2.2.map cntD)), (9, .sl g (all.map statD)), (10, .int .i64 (all.map statD).length), (11, .int .i64 s.1.length)]
    S := fun s => [outO 3 (s.2.2.map cntD)]
    ok := fun s => s.1 ++ s.2.1 = all ∧ cnts s.1 = s.2.2 ∧ all.length ≤ 1000
    μ := fun s => s.2.1.length
    m := fun _ => cnts all
    src := [(0, true)]
    alts := [[(3, true)]]
    outs := [{ α := Unit, is := fun o _ => o = [], ex := .exit 0, T := fun _ => [(3, .sl true [])] },
      { α := Cnt × List Cnt, is := fun o a => o = a.1 :: a.2, ex := .exit 0, src := [(0, true)], T := fun a => [(3, outD 0 ((a.1 :: a.2).map cntD))], S := fun a => [outO 3 ((a.1 :: a.2).map cntD)] }] }
theorem coR (g : Bool) (all : List Stat) (s : (coL g all).St) (hs : (coL g all).ok s) : Tri Try.prog 0 63 (lp Try.f66 3) (tb ((coL g all).T s)) ((coL g all).S s) ((coL g all).q 0 s) := by
  obtain ⟨a, r, u⟩ := s
  obtain ⟨h1, h2, h3⟩ := hs
  simp only at h1 h2
  cases r with
  | nil =>
    rw [List.append_nil] at h1
    subst h1
    cases u with
    | nil =>
      refine round0 (C := aCfg 0 coC [] [(12, .f)]) (ctrs_ok (coC) rfl rfl) (by kernel_rfl) (by kernel_rfl) (q := decide ((↑a.length : Int) < (↑(List.map statD a).length : Int)) = false ∧ ((∃ (a_1 : Unit), cnts a = [] ∧ D.sl true [] = D.sl true []) ∨ ∃ (a_1 : Cnt × List Cnt), cnts a = a_1.fst :: a_1.snd ∧ D.ms (0 : Nat) (0 : Nat) (List.map cntD (a_1.fst :: a_1.snd)).length (List.map cntD (a_1.fst :: a_1.snd)).length false = D.sl true [] ∧ (some (Ob.row St.own (3 : Nat) (List.map cntD (a_1.fst :: a_1.snd))) = none ∨ some (Ob.row St.own (3 : Nat) (List.map cntD (a_1.fst :: a_1.snd))) = none ∧ False))) (by kernel_rfl) ?_
      exact ⟨by simp, .inl ⟨(), h2, rfl⟩⟩
    | cons y ys =>
      refine round0 (C := aCfg 0 coC [] [(12, .f)]) (ctrs_ok (coC) rfl rfl) (by kernel_rfl) (by kernel_rfl) (q := decide ((↑a.length : Int) < (↑(List.map statD a).length : Int)) = false ∧ ((∃ (a_1 : Unit), cnts a = [] ∧ D.sl true [] = D.any) ∨ ∃ (a_1 : Cnt × List Cnt), cnts a = a_1.fst :: a_1.snd ∧ D.ms (0 : Nat) (0 : Nat) (List.map cntD (a_1.fst :: a_1.snd)).length (List.map cntD (a_1.fst :: a_1.snd)).length false = D.ms (0 : Nat) (0 : Nat) (List.map cntD (y :: ys)).length (List.map cntD (y :: ys)).length false ∧ (some (Ob.row St.own (3 : Nat) (List.map cntD (a_1.fst :: a_1.snd))) = none ∨ some (Ob.row St.own (3 : Nat) (List.map cntD (a_1.fst :: a_1.snd))) = some (Ob.row St.own (3 : Nat) (List.map cntD (y :: ys))) ∧ (List.map cntD (y :: ys)).all D.pure = true))) (by kernel_rfl) ?_
      exact ⟨by simp, .inr ⟨(y, ys), h2, rfl, .inr ⟨rfl, pure_cntD _⟩⟩⟩
  | cons t r =>
    have hl : a.length + (r.length + 1) ≤ 1000 := by rw [← h1] at h3; simpa using h3
    have hall : (a ++ [t]) ++ r = all := by rw [← h1]; simp
    have hg : (List.map statD all)[((a.length : Int)).toNat]? = some (statD t) := by rw [← h1]; exact get_midI statD a t r
    have hll : ((a.length : Int) < ((List.map statD all).length : Int)) := by rw [← h1]; simp; omega
    have hix : D.int .i64 ((a ++ [t]).length : Int) = D.int .i64 ((a.length : Int) + 1) := by simp
    have hin : inK .i64 ((a.length : Int) + 1) := by simp only [inK]; omega
    have hok := cnts_ok a
    have hsn := cnts_snoc a t
    rw [h2] at hok hsn
    cases u with
    | nil =>
      refine round0 (C := aCfg 0 coC [insCntC] [(12, .t)]) (ctrsR_ok coC [insCntC] rfl rfl rfl rfl) (by kernel_rfl) (by kernel_rfl) (q := decide ((↑a.length : Int) < (↑(List.map statD all).length : Int)) = true ∧ ∃ (y : Stat), (0 : Int) ≤ (↑a.length : Int) ∧ (List.map statD all)[(↑a.length : Int).toNat]? = some (D.agg [D.int IntKind.i64 y.id, D.str y.addr, D.int IntKind.i64 y.prio, D.str y.zone, D.int IntKind.i64 y.w, D.sl y.f (List.map pairD y.mt), D.bool y.up, D.int IntKind.i64 y.run, D.int IntKind.i64 y.forced, D.int IntKind.i64 y.wait, D.int IntKind.i64 y.errors, D.int IntKind.i64 y.bok, D.int IntKind.i64 y.ball, D.bool y.out, D.int IntKind.i64 y.frm, D.int IntKind.i64 y.till, D.int IntKind.i64 y.times, D.bool y.drains, D.int IntKind.i64 y.gone, D.int IntKind.i64 y.since, D.int IntKind.i64 y.active]) ∧ (decide (y.prio < (0 : Int)) = true → inK IntKind.i64 ((↑a.length : Int) + (1 : Int)) ∧ ((∃ (s' : List Stat × List Stat × List Cnt), (s'.fst ++ s'.snd.fst = all ∧ cnts s'.fst = s'.snd.snd ∧ all.length ≤ (1000 : Nat)) ∧ s'.snd.fst.length.succ ≤ (t :: r).length ∧ cnts all = cnts all ∧ (outD (0 : Nat) (List.map cntD s'.snd.snd) = D.sl true [] ∧ D.sl g (List.map statD all) = D.sl g (List.map statD all) ∧ D.int IntKind.i64 (↑(List.map statD all).length : Int) = D.int IntKind.i64 (↑(List.map statD all).length : Int) ∧ D.int IntKind.i64 (↑s'.fst.length : Int) = D.int IntKind.i64 ((↑a.length : Int) + (1 : Int))) ∧ (outO (3 : Nat) (List.map cntD s'.snd.snd) = none ∨ outO (3 : Nat) (List.map cntD s'.snd.snd) = none ∧ False)) ∨ ∃ (s' : List Stat × List Stat × List Cnt), (s'.fst ++ s'.snd.fst = all ∧ cnts s'.fst = s'.snd.snd ∧ all.length ≤ (1000 : Nat)) ∧ s'.snd.fst.length.succ ≤ (t :: r).length ∧ cnts all = cnts all ∧ (outD (0 : Nat) (List.map cntD s'.snd.snd) = D.sl true [] ∧ D.sl g (List.map statD all) = D.sl g (List.map statD all) ∧ D.int IntKind.i64 (↑(List.map statD all).length : Int) = D.int IntKind.i64 (↑(List.map statD all).length : Int) ∧ D.int IntKind.i64 (↑s'.fst.length : Int) = D.int IntKind.i64 ((↑a.length : Int) + (1 : Int))) ∧ (outO (3 : Nat) (List.map cntD s'.snd.snd) = none ∨ outO (3 : Nat) (List.map cntD s'.snd.snd) = none ∧ False))) ∧ (decide (y.prio < (0 : Int)) = false → (decide ((3 : Int) < y.prio) = true → inK IntKind.i64 ((↑a.length : Int) + (1 : Int)) ∧ ((∃ (s' : List Stat × List Stat × List Cnt), (s'.fst ++ s'.snd.fst = all ∧ cnts s'.fst = s'.snd.snd ∧ all.length ≤ (1000 : Nat)) ∧ s'.snd.fst.length.succ ≤ (t :: r).length ∧ cnts all = cnts all ∧ (outD (0 : Nat) (List.map cntD s'.snd.snd) = D.sl true [] ∧ D.sl g (List.map statD all) = D.sl g (List.map statD all) ∧ D.int IntKind.i64 (↑(List.map statD all).length : Int) = D.int IntKind.i64 (↑(List.map statD all).length : Int) ∧ D.int IntKind.i64 (↑s'.fst.length : Int) = D.int IntKind.i64 ((↑a.length : Int) + (1 : Int))) ∧ (outO (3 : Nat) (List.map cntD s'.snd.snd) = none ∨ outO (3 : Nat) (List.map cntD s'.snd.snd) = none ∧ False)) ∨ ∃ (s' : List Stat × List Stat × List Cnt), (s'.fst ++ s'.snd.fst = all ∧ cnts s'.fst = s'.snd.snd ∧ all.length ≤ (1000 : Nat)) ∧ s'.snd.fst.length.succ ≤ (t :: r).length ∧ cnts all = cnts all ∧ (outD (0 : Nat) (List.map cntD s'.snd.snd) = D.sl true [] ∧ D.sl g (List.map statD all) = D.sl g (List.map statD all) ∧ D.int IntKind.i64 (↑(List.map statD all).length : Int) = D.int IntKind.i64 (↑(List.map statD all).length : Int) ∧ D.int IntKind.i64 (↑s'.fst.length : Int) = D.int IntKind.i64 ((↑a.length : Int) + (1 : Int))) ∧ (outO (3 : Nat) (List.map cntD s'.snd.snd) = none ∨ outO (3 : Nat) (List.map cntD s'.snd.snd) = none ∧ False))) ∧ (decide ((3 : Int) < y.prio) = false → (∃ (l : List Cnt), nilT D = List.map cntD l ∧ l.length ≤ (1000 : Nat) ∧ List.Pairwise (fun (a b : Cnt) => a.fst < b.fst) l ∧ ((0 : Int) ≤ y.prio ∧ y.prio ≤ (3 : Int)) ∧ ∀ (c : Cnt), List.Mem c l → (0 : Int) ≤ c.fst ∧ c.fst ≤ (3 : Int)) ∧ (true = true → ((0 : Int) = (0 : Int) ∧ true = true ∧ true = true ∧ (24 : Nat) ≤ (140737488355328 : Nat)) ∧ (0 : Int) ≤ (0 : Int) ∧ (0 : Int) < (1 : Int) ∧ ∃ (x : Int × Int × Int), some (D.agg [D.int IntKind.i64 y.prio, D.int IntKind.i64 (0 : Int), D.int IntKind.i64 (0 : Int)]) = some (D.agg [D.int IntKind.i64 x.fst, D.int IntKind.i64 x.snd.fst, D.int IntKind.i64 x.snd.snd]) ∧ inK IntKind.i64 (x.snd.fst + (1 : Int)) ∧ (0 : Int) ≤ (0 : Int) ∧ (0 : Int) < (1 : Int) ∧ ∃ (x_1 : Int × Int × Int), some (D.agg [D.int IntKind.i64 y.prio, D.int IntKind.i64 (0 : Int), D.int IntKind.i64 (0 : Int)]) = some (D.agg [D.int IntKind.i64 x_1.fst, D.int IntKind.i64 x_1.snd.fst, D.int IntKind.i64 x_1.snd.snd]) ∧ (∃ (t : Stat), D.agg [D.int IntKind.i64 y.id, D.str y.addr, D.int IntKind.i64 y.prio, D.str y.zone, D.int IntKind.i64 y.w, D.sl y.f (List.map pairD y.mt), D.bool y.up, D.int IntKind.i64 y.run, D.int IntKind.i64 y.forced, D.int IntKind.i64 y.wait, D.int IntKind.i64 y.errors, D.int IntKind.i64 y.bok, D.int IntKind.i64 y.ball, D.bool y.out, D.int IntKind.i64 y.frm, D.int IntKind.i64 y.till, D.int IntKind.i64 y.times, D.bool y.drains, D.int IntKind.i64 y.gone, D.int IntKind.i64 y.since, D.int IntKind.i64 y.active] = D.agg [D.int IntKind.i64 t.id, D.str t.addr, D.int IntKind.i64 t.prio, D.str t.zone, D.int IntKind.i64 t.w, D.sl t.f (List.map pairD t.mt), D.bool t.up, D.int IntKind.i64 t.run, D.int IntKind.i64 t.forced, D.int IntKind.i64 t.wait, D.int IntKind.i64 t.errors, D.int IntKind.i64 t.bok, D.int IntKind.i64 t.ball, D.bool t.out, D.int IntKind.i64 t.frm, D.int IntKind.i64 t.till, D.int IntKind.i64 t.times, D.bool t.drains, D.int IntKind.i64 t.gone, D.int IntKind.i64 t.since, D.int IntKind.i64 t.active]) ∧ ((!y.drains && (decide (y.forced = (2 : Int)) || decide (y.forced = (0 : Int)) && y.up) && !y.out) = true → (0 : Int) ≤ (0 : Int) ∧ (0 : Int) < (1 : Int) ∧ ∃ (x_2 : Int × Int × Int), some (D.agg [D.int IntKind.i64 x_1.fst, D.int IntKind.i64 (x.snd.fst + (1 : Int)), D.int IntKind.i64 x_1.snd.snd]) = some (D.agg [D.int IntKind.i64 x_2.fst, D.int IntKind.i64 x_2.snd.fst, D.int IntKind.i64 x_2.snd.snd]) ∧ inK IntKind.i64 (x_2.snd.snd + (1 : Int)) ∧ (0 : Int) ≤ (0 : Int) ∧ (0 : Int) < (1 : Int) ∧ ∃ (x_3 : Int × Int × Int), some (D.agg [D.int IntKind.i64 x_1.fst, D.int IntKind.i64 (x.snd.fst + (1 : Int)), D.int IntKind.i64 x_1.snd.snd]) = some (D.agg [D.int IntKind.i64 x_3.fst, D.int IntKind.i64 x_3.snd.fst, D.int IntKind.i64 x_3.snd.snd]) ∧ inK IntKind.i64 ((↑a.length : Int) + (1 : Int)) ∧ ((∃ (s' : List Stat × List Stat × List Cnt), (s'.fst ++ s'.snd.fst = all ∧ cnts s'.fst = s'.snd.snd ∧ all.length ≤ (1000 : Nat)) ∧ s'.snd.fst.length.succ ≤ (t :: r).length ∧ cnts all = cnts all ∧ (outD (0 : Nat) (List.map cntD s'.snd.snd) = D.any ∧ D.sl g (List.map statD all) = D.sl g (List.map statD all) ∧ D.int IntKind.i64 (↑(List.map statD all).length : Int) = D.int IntKind.i64 (↑(List.map statD all).length : Int) ∧ D.int IntKind.i64 (↑s'.fst.length : Int) = D.int IntKind.i64 ((↑a.length : Int) + (1 : Int))) ∧ (outO (3 : Nat) (List.map cntD s'.snd.snd) = none ∨ outO (3 : Nat) (List.map cntD s'.snd.snd) = none ∧ False)) ∨ ∃ (s' : List Stat × List Stat × List Cnt), (s'.fst ++ s'.snd.fst = all ∧ cnts s'.fst = s'.snd.snd ∧ all.length ≤ (1000 : Nat)) ∧ s'.snd.fst.length.succ ≤ (t :: r).length ∧ cnts all = cnts all ∧ (outD (0 : Nat) (List.map cntD s'.snd.snd) = D.ms (0 : Nat) (0 : Nat) (1 : Nat) (1 : Nat) false ∧ D.sl g (List.map statD all) = D.sl g (List.map statD all) ∧ D.int IntKind.i64 (↑(List.map statD all).length : Int) = D.int IntKind.i64 (↑(List.map statD all).length : Int) ∧ D.int IntKind.i64 (↑s'.fst.length : Int) = D.int IntKind.i64 ((↑a.length : Int) + (1 : Int))) ∧ (outO (3 : Nat) (List.map cntD s'.snd.snd) = none ∨ outO (3 : Nat) (List.map cntD s'.snd.snd) = some (Ob.row St.own (3 : Nat) [D.agg [D.int IntKind.i64 x_3.fst, D.int IntKind.i64 x_3.snd.fst, D.int IntKind.i64 (x_2.snd.snd + (1 : Int))]]) ∧ true = true))) ∧ ((!y.drains && (decide (y.forced = (2 : Int)) || decide (y.forced = (0 : Int)) && y.up) && !y.out) = false → inK IntKind.i64 ((↑a.length : Int) + (1 : Int)) ∧ ((∃ (s' : List Stat × List Stat × List Cnt), (s'.fst ++ s'.snd.fst = all ∧ cnts s'.fst = s'.snd.snd ∧ all.length ≤ (1000 : Nat)) ∧ s'.snd.fst.length.succ ≤ (t :: r).length ∧ cnts all = cnts all ∧ (outD (0 : Nat) (List.map cntD s'.snd.snd) = D.any ∧ D.sl g (List.map statD all) = D.sl g (List.map statD all) ∧ D.int IntKind.i64 (↑(List.map statD all).length : Int) = D.int IntKind.i64 (↑(List.map statD all).length : Int) ∧ D.int IntKind.i64 (↑s'.fst.length : Int) = D.int IntKind.i64 ((↑a.length : Int) + (1 : Int))) ∧ (outO (3 : Nat) (List.map cntD s'.snd.snd) = none ∨ outO (3 : Nat) (List.map cntD s'.snd.snd) = none ∧ False)) ∨ ∃ (s' : List Stat × List Stat × List Cnt), (s'.fst ++ s'.snd.fst = all ∧ cnts s'.fst = s'.snd.snd ∧ all.length ≤ (1000 : Nat)) ∧ s'.snd.fst.length.succ ≤ (t :: r).length ∧ cnts all = cnts all ∧ (outD (0 : Nat) (List.map cntD s'.snd.snd) = D.ms (0 : Nat) (0 : Nat) (1 : Nat) (1 : Nat) false ∧ D.sl g (List.map statD all) = D.sl g (List.map statD all) ∧ D.int IntKind.i64 (↑(List.map statD all).length : Int) = D.int IntKind.i64 (↑(List.map statD all).length : Int) ∧ D.int IntKind.i64 (↑s'.fst.length : Int) = D.int IntKind.i64 ((↑a.length : Int) + (1 : Int))) ∧ (outO (3 : Nat) (List.map cntD s'.snd.snd) = none ∨ outO (3 : Nat) (List.map cntD s'.snd.snd) = some (Ob.row St.own (3 : Nat) [D.agg [D.int IntKind.i64 x_1.fst, D.int IntKind.i64 (x.snd.fst + (1 : Int)), D.int IntKind.i64 x_1.snd.snd]]) ∧ true = true)))) ∧ (true = false → ∃ (y : Int × Int × Int), (0 : Int) ≤ (0 : Int) ∧ none = some (D.agg [D.int IntKind.i64 y.fst, D.int IntKind.i64 y.snd.fst, D.int IntKind.i64 y.snd.snd]) ∧ inK IntKind.i64 (y.snd.fst + (1 : Int)) ∧ ∃ (y : Int × Int × Int), (0 : Int) ≤ (0 : Int) ∧ none = some (D.agg [D.int IntKind.i64 y.fst, D.int IntKind.i64 y.snd.fst, D.int IntKind.i64 y.snd.snd]) ∧ False)))) (by kernel_rfl) ?_
      have hexit : ∀ (hp : t.prio < 0 ∨ 3 < t.prio), addC t [] = [] := fun hp => if_pos hp
      refine ⟨decide_eq_true hll, t, by omega, hg, fun hp => ⟨hin, .inl ⟨(a ++ [t], r, []), ⟨hall, hsn.trans (hexit (.inl (of_decide_eq_true hp))), h3⟩, Nat.le_refl _, rfl, ⟨rfl, rfl, rfl, hix⟩, .inl rfl⟩⟩, fun hp => ⟨fun hp' => ⟨hin, .inl ⟨(a ++ [t], r, []), ⟨hall, hsn.trans (hexit (.inr (of_decide_eq_true hp'))), h3⟩, Nat.le_refl _, rfl, ⟨rfl, rfl, rfl, hix⟩, .inl rfl⟩⟩, fun hp' => ?_⟩⟩
      have hp := of_decide_eq_false hp
      have hp' := of_decide_eq_false hp'
      have hadd : addC t [] = [(t.prio, 0 + 1, 0 + if freeT t then 1 else 0)] := by unfold addC; rw [if_neg (by omega)]; rfl
      refine ⟨⟨[], rfl, by simp, List.Pairwise.nil, ⟨by omega, by omega⟩, fun c hc => by cases hc⟩, fun _ => ⟨⟨rfl, rfl, rfl, by omega⟩, by omega, by omega, (t.prio, 0, 0), rfl, ink (by simp), by omega, by omega, (t.prio, 0, 0), rfl, ⟨t, rfl⟩, fun hf => ?_, fun hf => ?_⟩, (fun h => by cases h)⟩
      · have hf : freeT t = true := hf
        rw [hf] at hadd
        exact ⟨by omega, by omega, (t.prio, 0 + 1, 0), rfl, ink (by simp), by omega, by omega, (t.prio, 0 + 1, 0), rfl, hin, .inr ⟨(a ++ [t], r, [(t.prio, 0 + 1, 0 + 1)]), ⟨hall, hsn.trans hadd, h3⟩, Nat.le_refl _, rfl, ⟨rfl, rfl, rfl, hix⟩, .inr ⟨rfl, rfl⟩⟩⟩
      · have hf : freeT t = false := hf
        rw [hf] at hadd
        exact ⟨hin, .inr ⟨(a ++ [t], r, [(t.prio, 0 + 1, 0)]), ⟨hall, hsn.trans hadd, h3⟩, Nat.le_refl _, rfl, ⟨rfl, rfl, rfl, hix⟩, .inr ⟨rfl, rfl⟩⟩⟩
    | cons y ys =>
      refine round0 (C := aCfg 0 coC [insCntC] [(12, .t)]) (ctrsR_ok coC [insCntC] rfl rfl rfl rfl) (by kernel_rfl) (by kernel_rfl) (q := decide ((↑a.length : Int) < (↑(List.map statD all).length : Int)) = true ∧ ∃ (y_1 : Stat), (0 : Int) ≤ (↑a.length : Int) ∧ (List.map statD all)[(↑a.length : Int).toNat]? = some (D.agg [D.int IntKind.i64 y_1.id, D.str y_1.addr, D.int IntKind.i64 y_1.prio, D.str y_1.zone, D.int IntKind.i64 y_1.w, D.sl y_1.f (List.map pairD y_1.mt), D.bool y_1.up, D.int IntKind.i64 y_1.run, D.int IntKind.i64 y_1.forced, D.int IntKind.i64 y_1.wait, D.int IntKind.i64 y_1.errors, D.int IntKind.i64 y_1.bok, D.int IntKind.i64 y_1.ball, D.bool y_1.out, D.int IntKind.i64 y_1.frm, D.int IntKind.i64 y_1.till, D.int IntKind.i64 y_1.times, D.bool y_1.drains, D.int IntKind.i64 y_1.gone, D.int IntKind.i64 y_1.since, D.int IntKind.i64 y_1.active]) ∧ (decide (y_1.prio < (0 : Int)) = true → inK IntKind.i64 ((↑a.length : Int) + (1 : Int)) ∧ ((∃ (s' : List Stat × List Stat × List Cnt), (s'.fst ++ s'.snd.fst = all ∧ cnts s'.fst = s'.snd.snd ∧ all.length ≤ (1000 : Nat)) ∧ s'.snd.fst.length.succ ≤ (t :: r).length ∧ cnts all = cnts all ∧ (outD (0 : Nat) (List.map cntD s'.snd.snd) = D.ms (0 : Nat) (0 : Nat) (List.map cntD (y :: ys)).length (List.map cntD (y :: ys)).length false ∧ D.sl g (List.map statD all) = D.sl g (List.map statD all) ∧ D.int IntKind.i64 (↑(List.map statD all).length : Int) = D.int IntKind.i64 (↑(List.map statD all).length : Int) ∧ D.int IntKind.i64 (↑s'.fst.length : Int) = D.int IntKind.i64 ((↑a.length : Int) + (1 : Int))) ∧ (outO (3 : Nat) (List.map cntD s'.snd.snd) = none ∨ outO (3 : Nat) (List.map cntD s'.snd.snd) = some (Ob.row St.own (3 : Nat) (List.map cntD (y :: ys))) ∧ (List.map cntD (y :: ys)).all D.pure = true)) ∨ ∃ (s' : List Stat × List Stat × List Cnt), (s'.fst ++ s'.snd.fst = all ∧ cnts s'.fst = s'.snd.snd ∧ all.length ≤ (1000 : Nat)) ∧ s'.snd.fst.length.succ ≤ (t :: r).length ∧ cnts all = cnts all ∧ (outD (0 : Nat) (List.map cntD s'.snd.snd) = D.any ∧ D.sl g (List.map statD all) = D.sl g (List.map statD all) ∧ D.int IntKind.i64 (↑(List.map statD all).length : Int) = D.int IntKind.i64 (↑(List.map statD all).length : Int) ∧ D.int IntKind.i64 (↑s'.fst.length : Int) = D.int IntKind.i64 ((↑a.length : Int) + (1 : Int))) ∧ (outO (3 : Nat) (List.map cntD s'.snd.snd) = none ∨ outO (3 : Nat) (List.map cntD s'.snd.snd) = none ∧ False))) ∧ (decide (y_1.prio < (0 : Int)) = false → (decide ((3 : Int) < y_1.prio) = true → inK IntKind.i64 ((↑a.length : Int) + (1 : Int)) ∧ ((∃ (s' : List Stat × List Stat × List Cnt), (s'.fst ++ s'.snd.fst = all ∧ cnts s'.fst = s'.snd.snd ∧ all.length ≤ (1000 : Nat)) ∧ s'.snd.fst.length.succ ≤ (t :: r).length ∧ cnts all = cnts all ∧ (outD (0 : Nat) (List.map cntD s'.snd.snd) = D.ms (0 : Nat) (0 : Nat) (List.map cntD (y :: ys)).length (List.map cntD (y :: ys)).length false ∧ D.sl g (List.map statD all) = D.sl g (List.map statD all) ∧ D.int IntKind.i64 (↑(List.map statD all).length : Int) = D.int IntKind.i64 (↑(List.map statD all).length : Int) ∧ D.int IntKind.i64 (↑s'.fst.length : Int) = D.int IntKind.i64 ((↑a.length : Int) + (1 : Int))) ∧ (outO (3 : Nat) (List.map cntD s'.snd.snd) = none ∨ outO (3 : Nat) (List.map cntD s'.snd.snd) = some (Ob.row St.own (3 : Nat) (List.map cntD (y :: ys))) ∧ (List.map cntD (y :: ys)).all D.pure = true)) ∨ ∃ (s' : List Stat × List Stat × List Cnt), (s'.fst ++ s'.snd.fst = all ∧ cnts s'.fst = s'.snd.snd ∧ all.length ≤ (1000 : Nat)) ∧ s'.snd.fst.length.succ ≤ (t :: r).length ∧ cnts all = cnts all ∧ (outD (0 : Nat) (List.map cntD s'.snd.snd) = D.any ∧ D.sl g (List.map statD all) = D.sl g (List.map statD all) ∧ D.int IntKind.i64 (↑(List.map statD all).length : Int) = D.int IntKind.i64 (↑(List.map statD all).length : Int) ∧ D.int IntKind.i64 (↑s'.fst.length : Int) = D.int IntKind.i64 ((↑a.length : Int) + (1 : Int))) ∧ (outO (3 : Nat) (List.map cntD s'.snd.snd) = none ∨ outO (3 : Nat) (List.map cntD s'.snd.snd) = none ∧ False))) ∧ (decide ((3 : Int) < y_1.prio) = false → (0 : Nat) + (List.map cntD (y :: ys)).length ≤ (List.map cntD (y :: ys)).length ∧ (List.take (List.map cntD (y :: ys)).length (List.drop (0 : Nat) (List.map cntD (y :: ys)))).all D.pure = true ∧ (∃ (l : List Cnt), List.take (List.map cntD (y :: ys)).length (List.drop (0 : Nat) (List.map cntD (y :: ys))) = List.map cntD l ∧ l.length ≤ (1000 : Nat) ∧ List.Pairwise (fun (a b : Cnt) => a.fst < b.fst) l ∧ ((0 : Int) ≤ y_1.prio ∧ y_1.prio ≤ (3 : Int)) ∧ ∀ (c : Cnt), List.Mem c l → (0 : Int) ≤ c.fst ∧ c.fst ≤ (3 : Int)) ∧ ((!hasC y_1.prio (List.map dCnt (List.take (List.map cntD (y :: ys)).length (List.drop (0 : Nat) (List.map cntD (y :: ys)))))) = true → ((0 : Int) ≤ (↑(posC y_1.prio (List.map dCnt (List.take (List.map cntD (y :: ys)).length (List.drop (0 : Nat) (List.map cntD (y :: ys)))))) : Int) ∧ (↑(posC y_1.prio (List.map dCnt (List.take (List.map cntD (y :: ys)).length (List.drop (0 : Nat) (List.map cntD (y :: ys)))))) : Int) ≤ (↑(List.map cntD (y :: ys)).length : Int) ∧ (List.map cntD (y :: ys)).length = (List.map cntD (y :: ys)).length ∧ ((List.map cntD (y :: ys)).all D.pure = true ∧ true = true) ∧ ((List.map cntD (y :: ys)).all (okEl (3 : Nat)) = true ∧ true = true) ∧ ((List.map cntD (y :: ys)).length + (1 : Nat)) * (24 : Nat) ≤ (140737488355328 : Nat)) ∧ (0 : Int) ≤ (↑(posC y_1.prio (List.map dCnt (List.take (List.map cntD (y :: ys)).length (List.drop (0 : Nat) (List.map cntD (y :: ys)))))) : Int) ∧ (↑(posC y_1.prio (List.map dCnt (List.take (List.map cntD (y :: ys)).length (List.drop (0 : Nat) (List.map cntD (y :: ys)))))) : Int) < (↑((List.map cntD (y :: ys)).length + (1 : Nat)) : Int) ∧ ∃ (x : Int × Int × Int), (List.take (↑(posC y_1.prio (List.map dCnt (List.take (List.map cntD (y :: ys)).length (List.drop (0 : Nat) (List.map cntD (y :: ys)))))) : Int).toNat (List.map cntD (y :: ys)) ++ D.agg [D.int IntKind.i64 y_1.prio, D.int IntKind.i64 (0 : Int), D.int IntKind.i64 (0 : Int)] :: List.drop (↑(posC y_1.prio (List.map dCnt (List.take (List.map cntD (y :: ys)).length (List.drop (0 : Nat) (List.map cntD (y :: ys)))))) : Int).toNat (List.map cntD (y :: ys)))[(0 : Nat) + (↑(posC y_1.prio (List.map dCnt (List.take (List.map cntD (y :: ys)).length (List.drop (0 : Nat) (List.map cntD (y :: ys)))))) : Int).toNat]? = some (D.agg [D.int IntKind.i64 x.fst, D.int IntKind.i64 x.snd.fst, D.int IntKind.i64 x.snd.snd]) ∧ inK IntKind.i64 (x.snd.fst + (1 : Int)) ∧ (0 : Int) ≤ (↑(posC y_1.prio (List.map dCnt (List.take (List.map cntD (y :: ys)).length (List.drop (0 : Nat) (List.map cntD (y :: ys)))))) : Int) ∧ (↑(posC y_1.prio (List.map dCnt (List.take (List.map cntD (y :: ys)).length (List.drop (0 : Nat) (List.map cntD (y :: ys)))))) : Int) < (↑((List.map cntD (y :: ys)).length + (1 : Nat)) : Int) ∧ ∃ (x_1 : Int × Int × Int), (List.take (↑(posC y_1.prio (List.map dCnt (List.take (List.map cntD (y :: ys)).length (List.drop (0 : Nat) (List.map cntD (y :: ys)))))) : Int).toNat (List.map cntD (y :: ys)) ++ D.agg [D.int IntKind.i64 y_1.prio, D.int IntKind.i64 (0 : Int), D.int IntKind.i64 (0 : Int)] :: List.drop (↑(posC y_1.prio (List.map dCnt (List.take (List.map cntD (y :: ys)).length (List.drop (0 : Nat) (List.map cntD (y :: ys)))))) : Int).toNat (List.map cntD (y :: ys)))[(0 : Nat) + (↑(posC y_1.prio (List.map dCnt (List.take (List.map cntD (y :: ys)).length (List.drop (0 : Nat) (List.map cntD (y :: ys)))))) : Int).toNat]? = some (D.agg [D.int IntKind.i64 x_1.fst, D.int IntKind.i64 x_1.snd.fst, D.int IntKind.i64 x_1.snd.snd]) ∧ (∃ (t : Stat), D.agg [D.int IntKind.i64 y_1.id, D.str y_1.addr, D.int IntKind.i64 y_1.prio, D.str y_1.zone, D.int IntKind.i64 y_1.w, D.sl y_1.f (List.map pairD y_1.mt), D.bool y_1.up, D.int IntKind.i64 y_1.run, D.int IntKind.i64 y_1.forced, D.int IntKind.i64 y_1.wait, D.int IntKind.i64 y_1.errors, D.int IntKind.i64 y_1.bok, D.int IntKind.i64 y_1.ball, D.bool y_1.out, D.int IntKind.i64 y_1.frm, D.int IntKind.i64 y_1.till, D.int IntKind.i64 y_1.times, D.bool y_1.drains, D.int IntKind.i64 y_1.gone, D.int IntKind.i64 y_1.since, D.int IntKind.i64 y_1.active] = D.agg [D.int IntKind.i64 t.id, D.str t.addr, D.int IntKind.i64 t.prio, D.str t.zone, D.int IntKind.i64 t.w, D.sl t.f (List.map pairD t.mt), D.bool t.up, D.int IntKind.i64 t.run, D.int IntKind.i64 t.forced, D.int IntKind.i64 t.wait, D.int IntKind.i64 t.errors, D.int IntKind.i64 t.bok, D.int IntKind.i64 t.ball, D.bool t.out, D.int IntKind.i64 t.frm, D.int IntKind.i64 t.till, D.int IntKind.i64 t.times, D.bool t.drains, D.int IntKind.i64 t.gone, D.int IntKind.i64 t.since, D.int IntKind.i64 t.active]) ∧ ((!y_1.drains && (decide (y_1.forced = (2 : Int)) || decide (y_1.forced = (0 : Int)) && y_1.up) && !y_1.out) = true → (0 : Int) ≤ (↑(posC y_1.prio (List.map dCnt (List.take (List.map cntD (y :: ys)).length (List.drop (0 : Nat) (List.map cntD (y :: ys)))))) : Int) ∧ (↑(posC y_1.prio (List.map dCnt (List.take (List.map cntD (y :: ys)).length (List.drop (0 : Nat) (List.map cntD (y :: ys)))))) : Int) < (↑((List.map cntD (y :: ys)).length + (1 : Nat)) : Int) ∧ ∃ (x_2 : Int × Int × Int), ((List.take (↑(posC y_1.prio (List.map dCnt (List.take (List.map cntD (y :: ys)).length (List.drop (0 : Nat) (List.map cntD (y :: ys)))))) : Int).toNat (List.map cntD (y :: ys)) ++ D.agg [D.int IntKind.i64 y_1.prio, D.int IntKind.i64 (0 : Int), D.int IntKind.i64 (0 : Int)] :: List.drop (↑(posC y_1.prio (List.map dCnt (List.take (List.map cntD (y :: ys)).length (List.drop (0 : Nat) (List.map cntD (y :: ys)))))) : Int).toNat (List.map cntD (y :: ys))).set ((0 : Nat) + (↑(posC y_1.prio (List.map dCnt (List.take (List.map cntD (y :: ys)).length (List.drop (0 : Nat) (List.map cntD (y :: ys)))))) : Int).toNat) (D.agg [D.int IntKind.i64 x_1.fst, D.int IntKind.i64 (x.snd.fst + (1 : Int)), D.int IntKind.i64 x_1.snd.snd]))[(0 : Nat) + (↑(posC y_1.prio (List.map dCnt (List.take (List.map cntD (y :: ys)).length (List.drop (0 : Nat) (List.map cntD (y :: ys)))))) : Int).toNat]? = some (D.agg [D.int IntKind.i64 x_2.fst, D.int IntKind.i64 x_2.snd.fst, D.int IntKind.i64 x_2.snd.snd]) ∧ inK IntKind.i64 (x_2.snd.snd + (1 : Int)) ∧ (0 : Int) ≤ (↑(posC y_1.prio (List.map dCnt (List.take (List.map cntD (y :: ys)).length (List.drop (0 : Nat) (List.map cntD (y :: ys)))))) : Int) ∧ (↑(posC y_1.prio (List.map dCnt (List.take (List.map cntD (y :: ys)).length (List.drop (0 : Nat) (List.map cntD (y :: ys)))))) : Int) < (↑((List.map cntD (y :: ys)).length + (1 : Nat)) : Int) ∧ ∃ (x_3 : Int × Int × Int), ((List.take (↑(posC y_1.prio (List.map dCnt (List.take (List.map cntD (y :: ys)).length (List.drop (0 : Nat) (List.map cntD (y :: ys)))))) : Int).toNat (List.map cntD (y :: ys)) ++ D.agg [D.int IntKind.i64 y_1.prio, D.int IntKind.i64 (0 : Int), D.int IntKind.i64 (0 : Int)] :: List.drop (↑(posC y_1.prio (List.map dCnt (List.take (List.map cntD (y :: ys)).length (List.drop (0 : Nat) (List.map cntD (y :: ys)))))) : Int).toNat (List.map cntD (y :: ys))).set ((0 : Nat) + (↑(posC y_1.prio (List.map dCnt (List.take (List.map cntD (y :: ys)).length (List.drop (0 : Nat) (List.map cntD (y :: ys)))))) : Int).toNat) (D.agg [D.int IntKind.i64 x_1.fst, D.int IntKind.i64 (x.snd.fst + (1 : Int)), D.int IntKind.i64 x_1.snd.snd]))[(0 : Nat) + (↑(posC y_1.prio (List.map dCnt (List.take (List.map cntD (y :: ys)).length (List.drop (0 : Nat) (List.map cntD (y :: ys)))))) : Int).toNat]? = some (D.agg [D.int IntKind.i64 x_3.fst, D.int IntKind.i64 x_3.snd.fst, D.int IntKind.i64 x_3.snd.snd]) ∧ inK IntKind.i64 ((↑a.length : Int) + (1 : Int)) ∧ ((∃ (s' : List Stat × List Stat × List Cnt), (s'.fst ++ s'.snd.fst = all ∧ cnts s'.fst = s'.snd.snd ∧ all.length ≤ (1000 : Nat)) ∧ s'.snd.fst.length.succ ≤ (t :: r).length ∧ cnts all = cnts all ∧ (outD (0 : Nat) (List.map cntD s'.snd.snd) = D.any ∧ D.sl g (List.map statD all) = D.sl g (List.map statD all) ∧ D.int IntKind.i64 (↑(List.map statD all).length : Int) = D.int IntKind.i64 (↑(List.map statD all).length : Int) ∧ D.int IntKind.i64 (↑s'.fst.length : Int) = D.int IntKind.i64 ((↑a.length : Int) + (1 : Int))) ∧ (outO (3 : Nat) (List.map cntD s'.snd.snd) = none ∨ outO (3 : Nat) (List.map cntD s'.snd.snd) = none ∧ False)) ∨ ∃ (s' : List Stat × List Stat × List Cnt), (s'.fst ++ s'.snd.fst = all ∧ cnts s'.fst = s'.snd.snd ∧ all.length ≤ (1000 : Nat)) ∧ s'.snd.fst.length.succ ≤ (t :: r).length ∧ cnts all = cnts all ∧ (outD (0 : Nat) (List.map cntD s'.snd.snd) = D.ms (0 : Nat) (0 : Nat) ((List.map cntD (y :: ys)).length + (1 : Nat)) ((List.map cntD (y :: ys)).length + (1 : Nat)) false ∧ D.sl g (List.map statD all) = D.sl g (List.map statD all) ∧ D.int IntKind.i64 (↑(List.map statD all).length : Int) = D.int IntKind.i64 (↑(List.map statD all).length : Int) ∧ D.int IntKind.i64 (↑s'.fst.length : Int) = D.int IntKind.i64 ((↑a.length : Int) + (1 : Int))) ∧ (outO (3 : Nat) (List.map cntD s'.snd.snd) = none ∨ outO (3 : Nat) (List.map cntD s'.snd.snd) = some (Ob.row St.own (3 : Nat) (((List.take (↑(posC y_1.prio (List.map dCnt (List.take (List.map cntD (y :: ys)).length (List.drop (0 : Nat) (List.map cntD (y :: ys)))))) : Int).toNat (List.map cntD (y :: ys)) ++ D.agg [D.int IntKind.i64 y_1.prio, D.int IntKind.i64 (0 : Int), D.int IntKind.i64 (0 : Int)] :: List.drop (↑(posC y_1.prio (List.map dCnt (List.take (List.map cntD (y :: ys)).length (List.drop (0 : Nat) (List.map cntD (y :: ys)))))) : Int).toNat (List.map cntD (y :: ys))).set ((0 : Nat) + (↑(posC y_1.prio (List.map dCnt (List.take (List.map cntD (y :: ys)).length (List.drop (0 : Nat) (List.map cntD (y :: ys)))))) : Int).toNat) (D.agg [D.int IntKind.i64 x_1.fst, D.int IntKind.i64 (x.snd.fst + (1 : Int)), D.int IntKind.i64 x_1.snd.snd])).set ((0 : Nat) + (↑(posC y_1.prio (List.map dCnt (List.take (List.map cntD (y :: ys)).length (List.drop (0 : Nat) (List.map cntD (y :: ys)))))) : Int).toNat) (D.agg [D.int IntKind.i64 x_3.fst, D.int IntKind.i64 x_3.snd.fst, D.int IntKind.i64 (x_2.snd.snd + (1 : Int))]))) ∧ (((List.take (↑(posC y_1.prio (List.map dCnt (List.take (List.map cntD (y :: ys)).length (List.drop (0 : Nat) (List.map cntD (y :: ys)))))) : Int).toNat (List.map cntD (y :: ys)) ++ D.agg [D.int IntKind.i64 y_1.prio, D.int IntKind.i64 (0 : Int), D.int IntKind.i64 (0 : Int)] :: List.drop (↑(posC y_1.prio (List.map dCnt (List.take (List.map cntD (y :: ys)).length (List.drop (0 : Nat) (List.map cntD (y :: ys)))))) : Int).toNat (List.map cntD (y :: ys))).set ((0 : Nat) + (↑(posC y_1.prio (List.map dCnt (List.take (List.map cntD (y :: ys)).length (List.drop (0 : Nat) (List.map cntD (y :: ys)))))) : Int).toNat) (D.agg [D.int IntKind.i64 x_1.fst, D.int IntKind.i64 (x.snd.fst + (1 : Int)), D.int IntKind.i64 x_1.snd.snd])).set ((0 : Nat) + (↑(posC y_1.prio (List.map dCnt (List.take (List.map cntD (y :: ys)).length (List.drop (0 : Nat) (List.map cntD (y :: ys)))))) : Int).toNat) (D.agg [D.int IntKind.i64 x_3.fst, D.int IntKind.i64 x_3.snd.fst, D.int IntKind.i64 (x_2.snd.snd + (1 : Int))])).all D.pure = true))) ∧ ((!y_1.drains && (decide (y_1.forced = (2 : Int)) || decide (y_1.forced = (0 : Int)) && y_1.up) && !y_1.out) = false → inK IntKind.i64 ((↑a.length : Int) + (1 : Int)) ∧ ((∃ (s' : List Stat × List Stat × List Cnt), (s'.fst ++ s'.snd.fst = all ∧ cnts s'.fst = s'.snd.snd ∧ all.length ≤ (1000 : Nat)) ∧ s'.snd.fst.length.succ ≤ (t :: r).length ∧ cnts all = cnts all ∧ (outD (0 : Nat) (List.map cntD s'.snd.snd) = D.any ∧ D.sl g (List.map statD all) = D.sl g (List.map statD all) ∧ D.int IntKind.i64 (↑(List.map statD all).length : Int) = D.int IntKind.i64 (↑(List.map statD all).length : Int) ∧ D.int IntKind.i64 (↑s'.fst.length : Int) = D.int IntKind.i64 ((↑a.length : Int) + (1 : Int))) ∧ (outO (3 : Nat) (List.map cntD s'.snd.snd) = none ∨ outO (3 : Nat) (List.map cntD s'.snd.snd) = none ∧ False)) ∨ ∃ (s' : List Stat × List Stat × List Cnt), (s'.fst ++ s'.snd.fst = all ∧ cnts s'.fst = s'.snd.snd ∧ all.length ≤ (1000 : Nat)) ∧ s'.snd.fst.length.succ ≤ (t :: r).length ∧ cnts all = cnts all ∧ (outD (0 : Nat) (List.map cntD s'.snd.snd) = D.ms (0 : Nat) (0 : Nat) ((List.map cntD (y :: ys)).length + (1 : Nat)) ((List.map cntD (y :: ys)).length + (1 : Nat)) false ∧ D.sl g (List.map statD all) = D.sl g (List.map statD all) ∧ D.int IntKind.i64 (↑(List.map statD all).length : Int) = D.int IntKind.i64 (↑(List.map statD all).length : Int) ∧ D.int IntKind.i64 (↑s'.fst.length : Int) = D.int IntKind.i64 ((↑a.length : Int) + (1 : Int))) ∧ (outO (3 : Nat) (List.map cntD s'.snd.snd) = none ∨ outO (3 : Nat) (List.map cntD s'.snd.snd) = some (Ob.row St.own (3 : Nat) ((List.take (↑(posC y_1.prio (List.map dCnt (List.take (List.map cntD (y :: ys)).length (List.drop (0 : Nat) (List.map cntD (y :: ys)))))) : Int).toNat (List.map cntD (y :: ys)) ++ D.agg [D.int IntKind.i64 y_1.prio, D.int IntKind.i64 (0 : Int), D.int IntKind.i64 (0 : Int)] :: List.drop (↑(posC y_1.prio (List.map dCnt (List.take (List.map cntD (y :: ys)).length (List.drop (0 : Nat) (List.map cntD (y :: ys)))))) : Int).toNat (List.map cntD (y :: ys))).set ((0 : Nat) + (↑(posC y_1.prio (List.map dCnt (List.take (List.map cntD (y :: ys)).length (List.drop (0 : Nat) (List.map cntD (y :: ys)))))) : Int).toNat) (D.agg [D.int IntKind.i64 x_1.fst, D.int IntKind.i64 (x.snd.fst + (1 : Int)), D.int IntKind.i64 x_1.snd.snd]))) ∧ ((List.take (↑(posC y_1.prio (List.map dCnt (List.take (List.map cntD (y :: ys)).length (List.drop (0 : Nat) (List.map cntD (y :: ys)))))) : Int).toNat (List.map cntD (y :: ys)) ++ D.agg [D.int IntKind.i64 y_1.prio, D.int IntKind.i64 (0 : Int), D.int IntKind.i64 (0 : Int)] :: List.drop (↑(posC y_1.prio (List.map dCnt (List.take (List.map cntD (y :: ys)).length (List.drop (0 : Nat) (List.map cntD (y :: ys)))))) : Int).toNat (List.map cntD (y :: ys))).set ((0 : Nat) + (↑(posC y_1.prio (List.map dCnt (List.take (List.map cntD (y :: ys)).length (List.drop (0 : Nat) (List.map cntD (y :: ys)))))) : Int).toNat) (D.agg [D.int IntKind.i64 x_1.fst, D.int IntKind.i64 (x.snd.fst + (1 : Int)), D.int IntKind.i64 x_1.snd.snd])).all D.pure = true)))) ∧ ((!hasC y_1.prio (List.map dCnt (List.take (List.map cntD (y :: ys)).length (List.drop (0 : Nat) (List.map cntD (y :: ys)))))) = false → (0 : Int) ≤ (↑(posC y_1.prio (List.map dCnt (List.take (List.map cntD (y :: ys)).length (List.drop (0 : Nat) (List.map cntD (y :: ys)))))) : Int) ∧ (↑(posC y_1.prio (List.map dCnt (List.take (List.map cntD (y :: ys)).length (List.drop (0 : Nat) (List.map cntD (y :: ys)))))) : Int) < (↑(List.map cntD (y :: ys)).length : Int) ∧ ∃ (x : Int × Int × Int), (List.map cntD (y :: ys))[(0 : Nat) + (↑(posC y_1.prio (List.map dCnt (List.take (List.map cntD (y :: ys)).length (List.drop (0 : Nat) (List.map cntD (y :: ys)))))) : Int).toNat]? = some (D.agg [D.int IntKind.i64 x.fst, D.int IntKind.i64 x.snd.fst, D.int IntKind.i64 x.snd.snd]) ∧ inK IntKind.i64 (x.snd.fst + (1 : Int)) ∧ (0 : Int) ≤ (↑(posC y_1.prio (List.map dCnt (List.take (List.map cntD (y :: ys)).length (List.drop (0 : Nat) (List.map cntD (y :: ys)))))) : Int) ∧ (↑(posC y_1.prio (List.map dCnt (List.take (List.map cntD (y :: ys)).length (List.drop (0 : Nat) (List.map cntD (y :: ys)))))) : Int) < (↑(List.map cntD (y :: ys)).length : Int) ∧ ∃ (x_1 : Int × Int × Int), (List.map cntD (y :: ys))[(0 : Nat) + (↑(posC y_1.prio (List.map dCnt (List.take (List.map cntD (y :: ys)).length (List.drop (0 : Nat) (List.map cntD (y :: ys)))))) : Int).toNat]? = some (D.agg [D.int IntKind.i64 x_1.fst, D.int IntKind.i64 x_1.snd.fst, D.int IntKind.i64 x_1.snd.snd]) ∧ (∃ (t : Stat), D.agg [D.int IntKind.i64 y_1.id, D.str y_1.addr, D.int IntKind.i64 y_1.prio, D.str y_1.zone, D.int IntKind.i64 y_1.w, D.sl y_1.f (List.map pairD y_1.mt), D.bool y_1.up, D.int IntKind.i64 y_1.run, D.int IntKind.i64 y_1.forced, D.int IntKind.i64 y_1.wait, D.int IntKind.i64 y_1.errors, D.int IntKind.i64 y_1.bok, D.int IntKind.i64 y_1.ball, D.bool y_1.out, D.int IntKind.i64 y_1.frm, D.int IntKind.i64 y_1.till, D.int IntKind.i64 y_1.times, D.bool y_1.drains, D.int IntKind.i64 y_1.gone, D.int IntKind.i64 y_1.since, D.int IntKind.i64 y_1.active] = D.agg [D.int IntKind.i64 t.id, D.str t.addr, D.int IntKind.i64 t.prio, D.str t.zone, D.int IntKind.i64 t.w, D.sl t.f (List.map pairD t.mt), D.bool t.up, D.int IntKind.i64 t.run, D.int IntKind.i64 t.forced, D.int IntKind.i64 t.wait, D.int IntKind.i64 t.errors, D.int IntKind.i64 t.bok, D.int IntKind.i64 t.ball, D.bool t.out, D.int IntKind.i64 t.frm, D.int IntKind.i64 t.till, D.int IntKind.i64 t.times, D.bool t.drains, D.int IntKind.i64 t.gone, D.int IntKind.i64 t.since, D.int IntKind.i64 t.active]) ∧ ((!y_1.drains && (decide (y_1.forced = (2 : Int)) || decide (y_1.forced = (0 : Int)) && y_1.up) && !y_1.out) = true → (0 : Int) ≤ (↑(posC y_1.prio (List.map dCnt (List.take (List.map cntD (y :: ys)).length (List.drop (0 : Nat) (List.map cntD (y :: ys)))))) : Int) ∧ (↑(posC y_1.prio (List.map dCnt (List.take (List.map cntD (y :: ys)).length (List.drop (0 : Nat) (List.map cntD (y :: ys)))))) : Int) < (↑(List.map cntD (y :: ys)).length : Int) ∧ ∃ (x_2 : Int × Int × Int), ((List.map cntD (y :: ys)).set ((0 : Nat) + (↑(posC y_1.prio (List.map dCnt (List.take (List.map cntD (y :: ys)).length (List.drop (0 : Nat) (List.map cntD (y :: ys)))))) : Int).toNat) (D.agg [D.int IntKind.i64 x_1.fst, D.int IntKind.i64 (x.snd.fst + (1 : Int)), D.int IntKind.i64 x_1.snd.snd]))[(0 : Nat) + (↑(posC y_1.prio (List.map dCnt (List.take (List.map cntD (y :: ys)).length (List.drop (0 : Nat) (List.map cntD (y :: ys)))))) : Int).toNat]? = some (D.agg [D.int IntKind.i64 x_2.fst, D.int IntKind.i64 x_2.snd.fst, D.int IntKind.i64 x_2.snd.snd]) ∧ inK IntKind.i64 (x_2.snd.snd + (1 : Int)) ∧ (0 : Int) ≤ (↑(posC y_1.prio (List.map dCnt (List.take (List.map cntD (y :: ys)).length (List.drop (0 : Nat) (List.map cntD (y :: ys)))))) : Int) ∧ (↑(posC y_1.prio (List.map dCnt (List.take (List.map cntD (y :: ys)).length (List.drop (0 : Nat) (List.map cntD (y :: ys)))))) : Int) < (↑(List.map cntD (y :: ys)).length : Int) ∧ ∃ (x_3 : Int × Int × Int), ((List.map cntD (y :: ys)).set ((0 : Nat) + (↑(posC y_1.prio (List.map dCnt (List.take (List.map cntD (y :: ys)).length (List.drop (0 : Nat) (List.map cntD (y :: ys)))))) : Int).toNat) (D.agg [D.int IntKind.i64 x_1.fst, D.int IntKind.i64 (x.snd.fst + (1 : Int)), D.int IntKind.i64 x_1.snd.snd]))[(0 : Nat) + (↑(posC y_1.prio (List.map dCnt (List.take (List.map cntD (y :: ys)).length (List.drop (0 : Nat) (List.map cntD (y :: ys)))))) : Int).toNat]? = some (D.agg [D.int IntKind.i64 x_3.fst, D.int IntKind.i64 x_3.snd.fst, D.int IntKind.i64 x_3.snd.snd]) ∧ inK IntKind.i64 ((↑a.length : Int) + (1 : Int)) ∧ ((∃ (s' : List Stat × List Stat × List Cnt), (s'.fst ++ s'.snd.fst = all ∧ cnts s'.fst = s'.snd.snd ∧ all.length ≤ (1000 : Nat)) ∧ s'.snd.fst.length.succ ≤ (t :: r).length ∧ cnts all = cnts all ∧ (outD (0 : Nat) (List.map cntD s'.snd.snd) = D.ms (0 : Nat) (0 : Nat) (List.map cntD (y :: ys)).length (List.map cntD (y :: ys)).length false ∧ D.sl g (List.map statD all) = D.sl g (List.map statD all) ∧ D.int IntKind.i64 (↑(List.map statD all).length : Int) = D.int IntKind.i64 (↑(List.map statD all).length : Int) ∧ D.int IntKind.i64 (↑s'.fst.length : Int) = D.int IntKind.i64 ((↑a.length : Int) + (1 : Int))) ∧ (outO (3 : Nat) (List.map cntD s'.snd.snd) = none ∨ outO (3 : Nat) (List.map cntD s'.snd.snd) = some (Ob.row St.own (3 : Nat) (((List.map cntD (y :: ys)).set ((0 : Nat) + (↑(posC y_1.prio (List.map dCnt (List.take (List.map cntD (y :: ys)).length (List.drop (0 : Nat) (List.map cntD (y :: ys)))))) : Int).toNat) (D.agg [D.int IntKind.i64 x_1.fst, D.int IntKind.i64 (x.snd.fst + (1 : Int)), D.int IntKind.i64 x_1.snd.snd])).set ((0 : Nat) + (↑(posC y_1.prio (List.map dCnt (List.take (List.map cntD (y :: ys)).length (List.drop (0 : Nat) (List.map cntD (y :: ys)))))) : Int).toNat) (D.agg [D.int IntKind.i64 x_3.fst, D.int IntKind.i64 x_3.snd.fst, D.int IntKind.i64 (x_2.snd.snd + (1 : Int))]))) ∧ (((List.map cntD (y :: ys)).set ((0 : Nat) + (↑(posC y_1.prio (List.map dCnt (List.take (List.map cntD (y :: ys)).length (List.drop (0 : Nat) (List.map cntD (y :: ys)))))) : Int).toNat) (D.agg [D.int IntKind.i64 x_1.fst, D.int IntKind.i64 (x.snd.fst + (1 : Int)), D.int IntKind.i64 x_1.snd.snd])).set ((0 : Nat) + (↑(posC y_1.prio (List.map dCnt (List.take (List.map cntD (y :: ys)).length (List.drop (0 : Nat) (List.map cntD (y :: ys)))))) : Int).toNat) (D.agg [D.int IntKind.i64 x_3.fst, D.int IntKind.i64 x_3.snd.fst, D.int IntKind.i64 (x_2.snd.snd + (1 : Int))])).all D.pure = true)) ∨ ∃ (s' : List Stat × List Stat × List Cnt), (s'.fst ++ s'.snd.fst = all ∧ cnts s'.fst = s'.snd.snd ∧ all.length ≤ (1000 : Nat)) ∧ s'.snd.fst.length.succ ≤ (t :: r).length ∧ cnts all = cnts all ∧ (outD (0 : Nat) (List.map cntD s'.snd.snd) = D.any ∧ D.sl g (List.map statD all) = D.sl g (List.map statD all) ∧ D.int IntKind.i64 (↑(List.map statD all).length : Int) = D.int IntKind.i64 (↑(List.map statD all).length : Int) ∧ D.int IntKind.i64 (↑s'.fst.length : Int) = D.int IntKind.i64 ((↑a.length : Int) + (1 : Int))) ∧ (outO (3 : Nat) (List.map cntD s'.snd.snd) = none ∨ outO (3 : Nat) (List.map cntD s'.snd.snd) = none ∧ False))) ∧ ((!y_1.drains && (decide (y_1.forced = (2 : Int)) || decide (y_1.forced = (0 : Int)) && y_1.up) && !y_1.out) = false → inK IntKind.i64 ((↑a.length : Int) + (1 : Int)) ∧ ((∃ (s' : List Stat × List Stat × List Cnt), (s'.fst ++ s'.snd.fst = all ∧ cnts s'.fst = s'.snd.snd ∧ all.length ≤ (1000 : Nat)) ∧ s'.snd.fst.length.succ ≤ (t :: r).length ∧ cnts all = cnts all ∧ (outD (0 : Nat) (List.map cntD s'.snd.snd) = D.ms (0 : Nat) (0 : Nat) (List.map cntD (y :: ys)).length (List.map cntD (y :: ys)).length false ∧ D.sl g (List.map statD all) = D.sl g (List.map statD all) ∧ D.int IntKind.i64 (↑(List.map statD all).length : Int) = D.int IntKind.i64 (↑(List.map statD all).length : Int) ∧ D.int IntKind.i64 (↑s'.fst.length : Int) = D.int IntKind.i64 ((↑a.length : Int) + (1 : Int))) ∧ (outO (3 : Nat) (List.map cntD s'.snd.snd) = none ∨ outO (3 : Nat) (List.map cntD s'.snd.snd) = some (Ob.row St.own (3 : Nat) ((List.map cntD (y :: ys)).set ((0 : Nat) + (↑(posC y_1.prio (List.map dCnt (List.take (List.map cntD (y :: ys)).length (List.drop (0 : Nat) (List.map cntD (y :: ys)))))) : Int).toNat) (D.agg [D.int IntKind.i64 x_1.fst, D.int IntKind.i64 (x.snd.fst + (1 : Int)), D.int IntKind.i64 x_1.snd.snd]))) ∧ ((List.map cntD (y :: ys)).set ((0 : Nat) + (↑(posC y_1.prio (List.map dCnt (List.take (List.map cntD (y :: ys)).length (List.drop (0 : Nat) (List.map cntD (y :: ys)))))) : Int).toNat) (D.agg [D.int IntKind.i64 x_1.fst, D.int IntKind.i64 (x.snd.fst + (1 : Int)), D.int IntKind.i64 x_1.snd.snd])).all D.pure = true)) ∨ ∃ (s' : List Stat × List Stat × List Cnt), (s'.fst ++ s'.snd.fst = all ∧ cnts s'.fst = s'.snd.snd ∧ all.length ≤ (1000 : Nat)) ∧ s'.snd.fst.length.succ ≤ (t :: r).length ∧ cnts all = cnts all ∧ (outD (0 : Nat) (List.map cntD s'.snd.snd) = D.any ∧ D.sl g (List.map statD all) = D.sl g (List.map statD all) ∧ D.int IntKind.i64 (↑(List.map statD all).length : Int) = D.int IntKind.i64 (↑(List.map statD all).length : Int) ∧ D.int IntKind.i64 (↑s'.fst.length : Int) = D.int IntKind.i64 ((↑a.length : Int) + (1 : Int))) ∧ (outO (3 : Nat) (List.map cntD s'.snd.snd) = none ∨ outO (3 : Nat) (List.map cntD s'.snd.snd) = none ∧ False))))))) (by kernel_rfl) ?_
      rw [show List.take (List.map cntD (y :: ys)).length (List.drop 0 (List.map cntD (y :: ys))) = List.map cntD (y :: ys) by rw [List.drop_zero, List.take_length], map_dCnt]
      have hul : (y :: ys).length ≤ 1000 := by have := cnts_len a; rw [h2] at this; omega
      have hexit : ∀ (hp : t.prio < 0 ∨ 3 < t.prio), addC t (y :: ys) = y :: ys := fun hp => if_pos hp
      refine ⟨decide_eq_true hll, t, by omega, hg, fun hp => ⟨hin, .inl ⟨(a ++ [t], r, y :: ys), ⟨hall, hsn.trans (hexit (.inl (of_decide_eq_true hp))), h3⟩, Nat.le_refl _, rfl, ⟨rfl, rfl, rfl, hix⟩, .inr ⟨rfl, pure_cntD _⟩⟩⟩, fun hp => ⟨fun hp' => ⟨hin, .inl ⟨(a ++ [t], r, y :: ys), ⟨hall, hsn.trans (hexit (.inr (of_decide_eq_true hp'))), h3⟩, Nat.le_refl _, rfl, ⟨rfl, rfl, rfl, hix⟩, .inr ⟨rfl, pure_cntD _⟩⟩⟩, fun hp' => ?_⟩⟩
      have hp := of_decide_eq_false hp
      have hp' := of_decide_eq_false hp'
      obtain ⟨A, c, B, e1, e2, e3, e4, e5, e6⟩ := addC_split hok.srt (t := t) (by omega)
      have hpl := posC_le t.prio (y :: ys)
      have hml : (List.map cntD (y :: ys)).length = (y :: ys).length := List.length_map ..
      refine ⟨by omega, pure_cntD _, ⟨y :: ys, rfl, hul, hok.srt, ⟨by omega, by omega⟩, fun c hc => (hok.ent c hc).1⟩, fun hh => ?_, fun hh => ?_⟩
      · have hh : hasC t.prio (y :: ys) = false := by simpa using hh
        obtain ⟨e7, e8⟩ : y :: ys = A ++ B ∧ c = (t.prio, 0, 0) := by
          rcases e6 with ⟨g, _⟩ | ⟨_, g⟩
          · rw [hh] at g; cases g
          · exact g
        have hrow : List.take ((posC t.prio (y :: ys) : Nat) : Int).toNat (List.map cntD (y :: ys)) ++ D.agg [.int .i64 t.prio, .int .i64 0, .int .i64 0] :: List.drop ((posC t.prio (y :: ys) : Nat) : Int).toNat (List.map cntD (y :: ys)) = List.map cntD (A ++ c :: B) := by
          rw [Int.toNat_natCast, ← e1, e7, List.map_append, List.take_left' (List.length_map ..), List.drop_left' (List.length_map ..), List.map_append, List.map_cons, e8]
          rfl
        have hab : (y :: ys).length = A.length + B.length := by rw [e7, List.length_append]
        have hc0 : c.2.1 = 0 ∧ c.2.2 = 0 := by rw [e8]; exact ⟨rfl, rfl⟩
        rw [hrow]
        refine ⟨⟨by omega, by omega, rfl, ⟨pure_cntD _, rfl⟩, ⟨okEl_cntD _, rfl⟩, by omega⟩, ?_⟩
        refine ⟨by omega, by omega, c, cget e1, ink (by omega), by omega, by omega, c, cget e1, ⟨t, rfl⟩, fun hf => ?_, fun hf => ?_⟩
        · have hf : freeT t = true := hf
          rw [hf] at e3
          rw [cset e1]
          refine ⟨by omega, by omega, (c.1, c.2.1 + 1, c.2.2), cget e1, ink (by simp only; omega), by omega, by omega, (c.1, c.2.1 + 1, c.2.2), cget e1, hin, .inr ⟨(a ++ [t], r, A ++ (c.1, c.2.1 + 1, c.2.2 + 1) :: B), ⟨hall, hsn.trans e3, h3⟩, Nat.le_refl _, rfl, ⟨outD_of (by rw [hml, hab]; simp; omega), rfl, rfl, hix⟩, .inr ⟨?_, ?_⟩⟩⟩
          · rw [cset e1]; exact outO_of (by simp)
          · rw [cset e1]; exact pure_cntD _
        · have hf : freeT t = false := hf
          rw [hf] at e3
          refine ⟨hin, .inr ⟨(a ++ [t], r, A ++ (c.1, c.2.1 + 1, c.2.2 + 0) :: B), ⟨hall, hsn.trans e3, h3⟩, Nat.le_refl _, rfl, ⟨outD_of (by rw [hml, hab]; simp; omega), rfl, rfl, hix⟩, .inr ⟨?_, ?_⟩⟩⟩
          · rw [cset e1, Int.add_zero]; exact outO_of (by simp)
          · rw [cset e1]; exact pure_cntD _
      · have hh : hasC t.prio (y :: ys) = true := by simpa using hh
        have e7 : y :: ys = A ++ c :: B := by
          rcases e6 with ⟨_, g⟩ | ⟨g, _⟩
          · exact g
          · rw [hh] at g; cases g
        have hab : (y :: ys).length = A.length + B.length + 1 := by rw [e7, List.length_append, List.length_cons]; omega
        have hc := hok.ent c (by rw [e7]; simp)
        have hcb : nP c.1 a ≤ 1000 ∧ nF c.1 a ≤ 1000 ∧ 0 ≤ nF c.1 a := by
          unfold nP nF
          have i1 : (a.filter fun t => decide (t.prio = c.1)).length ≤ a.length := List.length_filter_le ..
          have i2 : (a.filter fun t => decide (t.prio = c.1) && freeT t).length ≤ a.length := List.length_filter_le ..
          omega
        have hrow : List.map cntD (y :: ys) = List.map cntD (A ++ c :: B) := congrArg _ e7
        generalize hkk : posC t.prio (y :: ys) = k at *
        rw [hml, hrow]
        refine ⟨by omega, by omega, c, cget e1, ink (by omega), by omega, by omega, c, cget e1, ⟨t, rfl⟩, fun hf => ?_, fun hf => ?_⟩
        · have hf : freeT t = true := hf
          rw [hf] at e3
          rw [cset e1]
          refine ⟨by omega, by omega, (c.1, c.2.1 + 1, c.2.2), cget e1, ink (by simp only; omega), by omega, by omega, (c.1, c.2.1 + 1, c.2.2), cget e1, hin, .inl ⟨(a ++ [t], r, A ++ (c.1, c.2.1 + 1, c.2.2 + 1) :: B), ⟨hall, hsn.trans e3, h3⟩, Nat.le_refl _, rfl, ⟨outD_of (by have h9 := hab; simp only [List.length_cons] at h9; simp; omega), rfl, rfl, hix⟩, .inr ⟨?_, ?_⟩⟩⟩
          · rw [cset e1]; exact outO_of (by simp)
          · rw [cset e1]; exact pure_cntD _
        · have hf : freeT t = false := hf
          rw [hf] at e3
          refine ⟨hin, .inl ⟨(a ++ [t], r, A ++ (c.1, c.2.1 + 1, c.2.2 + 0) :: B), ⟨hall, hsn.trans e3, h3⟩, Nat.le_refl _, rfl, ⟨outD_of (by have h9 := hab; simp only [List.length_cons] at h9; simp; omega), rfl, rfl, hix⟩, .inr ⟨?_, ?_⟩⟩⟩
          · rw [cset e1, Int.add_zero]; exact outO_of (by simp)
          · rw [cset e1]; exact pure_cntD _
noncomputable def coCfg (g : Bool) (l : List Stat) : WCfg := { aCfg 0 coC [insCntC] [] with loops := fun k => match k with | 3 => some ((coL g (resMb l)).row [(0, true)]) | _ => none }
theorem coN (f : Bool) (l : List Stat) (h : l.length ≤ 1000) (h2 : ∀ t ∈ l, t.small) : (∃ (l_1 : List Stat), List.map statD l = List.map statD l_1 ∧ l_1.length ≤ (1000 : Nat) ∧ ∀ (t : Stat), List.Mem t l_1 → t.small) ∧ ∃ (b : List Stat × List Stat × List Cnt), (b.fst ++ b.snd.fst = resMb l ∧ cnts b.fst = b.snd.snd ∧ (resMb l).length ≤ (1000 : Nat)) ∧ ((outD (0 : Nat) (List.map cntD b.snd.snd) = D.sl true [] ∧ D.sl (resMb l).isEmpty (List.map statD (resMb l)) = D.sl (resMb (List.map dStat (List.map statD l))).isEmpty (List.map statD (resMb (List.map dStat (List.map statD l)))) ∧ D.int IntKind.i64 (↑(List.map statD (resMb l)).length : Int) = D.int IntKind.i64 (↑(List.map statD (resMb (List.map dStat (List.map statD l)))).length : Int) ∧ D.int IntKind.i64 (↑b.fst.length : Int) = D.int IntKind.i64 (0 : Int)) ∧ (outO (3 : Nat) (List.map cntD b.snd.snd) = none ∨ outO (3 : Nat) (List.map cntD b.snd.snd) = none ∧ False)) ∧ (∀ (a : Unit), cnts (resMb l) = [] → D.sl true [] = D.sl (cnts (resMb l)).isEmpty (List.map cntD (cnts (resMb l)))) ∧ ∀ (a : Cnt × List Cnt), cnts (resMb l) = a.fst :: a.snd → (0 : Nat) + (List.map cntD (a.fst :: a.snd)).length ≤ (List.map cntD (a.fst :: a.snd)).length ∧ (List.take (List.map cntD (a.fst :: a.snd)).length (List.drop (0 : Nat) (List.map cntD (a.fst :: a.snd)))).all D.pure = true ∧ D.sl false (List.take (List.map cntD (a.fst :: a.snd)).length (List.drop (0 : Nat) (List.map cntD (a.fst :: a.snd)))) = D.sl (cnts (resMb l)).isEmpty (List.map cntD (cnts (resMb l))) := by
  refine ⟨⟨l, rfl, h, h2⟩, ([], resMb l, []), ⟨rfl, rfl, Nat.le_trans (resMb_len l) h⟩, ⟨?_, .inl rfl⟩, fun _ h => by rw [h]; rfl, fun a h => ?_⟩
  · rw [map_dStat]
    repeat' apply And.intro
    all_goals rfl
  · rw [h, List.drop_zero, List.take_length]
    exact ⟨by omega, pure_cntD _, rfl⟩
def coS (vs : List D) : Option DOut := match vs with | [.sl f xs] => some ⟨∃ l : List Stat, xs = l.map statD ∧ l.length ≤ 1000 ∧ ∀ t ∈ l, t.small, .sl (cnts (resMb (xs.map dStat))).isEmpty ((cnts (resMb (xs.map dStat))).map cntD)⟩ | _ => none
/-- load.counts. -/
def coCC : Ctr := ⟨66, coS, by
  intro vs o ho hp
  unfold coS at ho
  split at ho
  · rename_i f xs
    injection ho with ho; subst ho
    obtain ⟨l, rfl, h1, h2⟩ := hp
    simp only [map_dStat]
    refine dataFunL (C := coCfg (resMb l).isEmpty l) (ctrsR_ok coC [insCntC] rfl rfl rfl rfl) rfl Try.func66 (by kernel_rfl) (l := [lp Try.f66 3]) (by kernel_rfl) ?_ (by kernel_rfl) (by kernel_rfl) (by kernel_rfl) (coN f l h1 h2)
    intro x hx
    rw [List.mem_singleton.1 hx]
    exact (coL _ (resMb l)).fits 3 [(0, true)] (by kernel_rfl) rfl (coR _ (resMb l))
  · cases ho⟩
end Go.Proofs.Ytgibpomhiilehaa.Dv
