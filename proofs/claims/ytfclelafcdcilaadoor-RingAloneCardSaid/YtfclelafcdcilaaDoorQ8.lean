/- Hosts that can be gone through. -/
import Derived.Test.YtfclelafcdcilaaDoorQ7
import Derived.Test.YtfclelafcdcilaaDoorQ3
set_option linter.unusedVariables false
set_option linter.unusedSimpArgs false
namespace Go.Proofs.YtfclelafcdcilaaDoor.Dv
open Go Go.Proofs
/-- triagelaw8.Light. -/
def ltV : List Hst → Int → Int
  | [], _ => 0
  | h :: r, i => if 80 < i ∨ 0 < lightH h then 1 else ltV r (i + 1)
def ltL (f : Bool) (l : List Hst) : WLoop :=
  { St := List Hst × List Hst
    O := Int
    T := fun s => [(5, .sl f (l.map hstD)), (6, .int .i64 (l.map hstD).length), (7, .int .i64 s.1.length)]
    ok := fun s => s.1 ++ s.2 = l ∧ l.length ≤ 4398046511104 ∧ ∀ h ∈ l, h.small
    μ := fun s => s.2.length
    m := fun s => ltV s.2 s.1.length
    outs := [{ α := Unit, is := fun o _ => o = 0, ex := .exit 0, T := fun _ => [] }, { α := Unit, is := fun o _ => o = 1, ex := .ret, T := fun _ => [(2, .int .i64 1)] }] }
theorem ltR (f : Bool) (l : List Hst) (s : (ltL f l).St) (hs : (ltL f l).ok s) : Tri Tryd.prog 0 20 (lp Tryd.f17 2) (tb ((ltL f l).T s)) ((ltL f l).S s) ((ltL f l).q 0 s) := by
  obtain ⟨a, r⟩ := s
  obtain ⟨h1, h2, h3⟩ := hs
  simp only at h1 h2
  subst h1
  cases r with
  | nil =>
    refine round0 (C := gCf 0 [] [] [(8, .f)]) (ctrs_ok ([]) rfl rfl) (by kernel_rfl) (by kernel_rfl) (q := decide ((↑a.length : Int) < (↑(List.map hstD (a ++ [])).length : Int)) = false ∧ ∃ (a : Unit), Int.ofNat (0 : Nat) = (0 : Int) ∧ True) (by kernel_rfl) ?_
    have hA : (List.map hstD (a ++ [])).length = a.length := by simp
    exact ⟨decide_eq_false (by omega), (), rfl, trivial⟩
  | cons x r =>
    refine round0 (C := gCf 0 [liC] [] [(8, .t)]) (ctrs_ok ([liC]) rfl rfl) (by kernel_rfl) (by kernel_rfl) (q := decide ((↑a.length : Int) < (↑(List.map hstD (a ++ x :: r)).length : Int)) = true ∧ ∃ (y : Hst), (0 : Int) ≤ (↑a.length : Int) ∧ (List.map hstD (a ++ x :: r))[(↑a.length : Int).toNat]? = some (D.agg [D.int IntKind.i64 y.id, D.str y.addr, D.int IntKind.i64 y.prio, D.str y.zone, D.int IntKind.i64 y.w, D.sl y.f (List.map pairQ y.mt)]) ∧ (decide ((80 : Int) < (↑a.length : Int)) = true → ∃ (a_2 : Unit), ltV (x :: r) (↑a.length : Int) = (1 : Int) ∧ D.int IntKind.i64 (1 : Int) = D.int IntKind.i64 (1 : Int)) ∧ (decide ((80 : Int) < (↑a.length : Int)) = false → (∃ (h : Hst), h.small ∧ D.agg [D.int IntKind.i64 y.id, D.str y.addr, D.int IntKind.i64 y.prio, D.str y.zone, D.int IntKind.i64 y.w, D.sl y.f (List.map pairQ y.mt)] = D.agg [D.int IntKind.i64 h.id, D.str h.addr, D.int IntKind.i64 h.prio, D.str h.zone, D.int IntKind.i64 h.w, D.sl h.f (List.map pairQ h.mt)]) ∧ (decide ((0 : Int) < if (600 : Int) < lsumQ (List.map dPairQ (List.map pairQ y.mt)) ((↑y.addr.size : Int) + (↑y.zone.size : Int)) then (1 : Int) else (0 : Int)) = true → ∃ (a_3 : Unit), ltV (x :: r) (↑a.length : Int) = (1 : Int) ∧ D.int IntKind.i64 (1 : Int) = D.int IntKind.i64 (1 : Int)) ∧ (decide ((0 : Int) < if (600 : Int) < lsumQ (List.map dPairQ (List.map pairQ y.mt)) ((↑y.addr.size : Int) + (↑y.zone.size : Int)) then (1 : Int) else (0 : Int)) = false → inK IntKind.i64 ((↑a.length : Int) + (1 : Int)) ∧ ∃ (s' : List Hst × List Hst), (s'.fst ++ s'.snd = a ++ x :: r ∧ (a ++ x :: r).length ≤ (4398046511104 : Nat) ∧ ∀ (h : Hst), List.Mem h (a ++ x :: r) → h.small) ∧ s'.snd.length.succ ≤ (x :: r).length ∧ ltV s'.snd (↑s'.fst.length : Int) = ltV (x :: r) (↑a.length : Int) ∧ D.sl f (List.map hstD (a ++ x :: r)) = D.sl f (List.map hstD (a ++ x :: r)) ∧ D.int IntKind.i64 (↑(List.map hstD (a ++ x :: r)).length : Int) = D.int IntKind.i64 (↑(List.map hstD (a ++ x :: r)).length : Int) ∧ D.int IntKind.i64 (↑s'.fst.length : Int) = D.int IntKind.i64 ((↑a.length : Int) + (1 : Int))))) (by kernel_rfl) ?_
    have hA : (List.map hstD (a ++ x :: r)).length = a.length + (r.length + 1) := by simp
    have h2' : a.length + (r.length + 1) ≤ 4398046511104 := by rw [← hA, List.length_map]; exact h2
    refine ⟨decide_eq_true (by omega), x, by omega, get_midI hstD a x r, fun h => ⟨(), ?_, rfl⟩, fun h => ⟨⟨x, h3 x (by simp), rfl⟩, fun h4 => ⟨(), ?_, rfl⟩, fun h4 => ⟨inkQ (by omega), (a ++ [x], r), ⟨by simp, h2, h3⟩, Nat.le_refl _, ?_, rfl, rfl, by simp⟩⟩⟩
    · rw [ltV, if_pos (.inl (of_decide_eq_true h))]
    · rw [map_dPairQ] at h4
      rw [ltV, if_pos (.inr (of_decide_eq_true h4))]
    · rw [map_dPairQ] at h4
      rw [show ltV (x :: r) a.length = ltV r (a.length + 1) by rw [ltV, if_neg (fun e => e.elim (of_decide_eq_false h) (of_decide_eq_false h4))]]
      simp
def ltCf (f : Bool) (l : List Hst) : WCfg := { gCf 0 [] [] [] with loops := fun k => match k with | 2 => some ((ltL f l).row []) | _ => none }
theorem ltN (f : Bool) (l : List Hst) (h1 : l.length ≤ 4398046511104) (h2 : ∀ h ∈ l, h.small) : ∃ (b : List Hst × List Hst), (b.fst ++ b.snd = l ∧ l.length ≤ (4398046511104 : Nat) ∧ ∀ (h : Hst), List.Mem h l → h.small) ∧ (D.sl f (List.map hstD l) = D.sl f (List.map hstD l) ∧ D.int IntKind.i64 (↑(List.map hstD l).length : Int) = D.int IntKind.i64 (↑(List.map hstD l).length : Int) ∧ D.int IntKind.i64 (↑b.fst.length : Int) = D.int IntKind.i64 (0 : Int)) ∧ (∀ (a : Unit), ltV b.snd (↑b.fst.length : Int) = (0 : Int) → D.int IntKind.i64 (0 : Int) = D.int IntKind.i64 (ltV l (0 : Int))) ∧ ∀ (a : Unit), ltV b.snd (↑b.fst.length : Int) = (1 : Int) → D.int IntKind.i64 (1 : Int) = D.int IntKind.i64 (ltV l (0 : Int)) := by
  refine ⟨([], l), ⟨rfl, h1, h2⟩, ⟨rfl, rfl, rfl⟩, fun _ h => ?_, fun _ h => ?_⟩
  · rw [show ltV l 0 = 0 from h]
  · rw [show ltV l 0 = 1 from h]
def ltS (vs : List D) : Option DOut := match vs with | [.sl f xs] => some ⟨∃ l : List Hst, xs = l.map hstD ∧ l.length ≤ 4398046511104 ∧ ∀ h ∈ l, h.small, .int .i64 (ltV (xs.map dHst) 0)⟩ | _ => none
def ltC : Ctr := ⟨17, ltS, by
  intro vs o ho hp
  unfold ltS at ho
  split at ho
  · rename_i f xs
    injection ho with ho; subst ho
    obtain ⟨l, rfl, h1, h2⟩ := hp
    simp only
    rw [map_dHst]
    exact dataFunL (C := ltCf f l) (ctrs_ok [] rfl rfl) rfl Tryd.func17 (by kernel_rfl) (l := [lp Tryd.f17 2]) (by kernel_rfl) (fun x hx => by rw [List.mem_singleton.1 hx]; exact (ltL f l).fits 2 [] (by kernel_rfl) rfl (ltR f l)) (by kernel_rfl) rfl (by kernel_rfl) (ltN f l h1 h2)
  · cases ho⟩
def lgtB (l : List Hst) (key : ByteArray) : Bool := decide (ltV l 0 = 0) && (decide ((l.length : Int) ≤ 20) && decide ((key.size : Int) ≤ 200))
theorem lgN (f : Bool) (l : List Hst) (key : ByteArray) (h1 : l.length ≤ 4398046511104) (h2 : ∀ h ∈ l, h.small) : (∃ (l_1 : List Hst), List.map hstD l = List.map hstD l_1 ∧ l_1.length ≤ (4398046511104 : Nat) ∧ ∀ (h : Hst), List.Mem h l_1 → h.small) ∧ (decide (ltV (List.map dHst (List.map hstD l)) (0 : Int) = (0 : Int)) = true → (decide ((↑(List.map hstD l).length : Int) ≤ (20 : Int)) = true → D.bool (decide ((↑key.size : Int) ≤ (200 : Int))) = D.bool (lgtB l key)) ∧ (decide ((↑(List.map hstD l).length : Int) ≤ (20 : Int)) = false → D.bool false = D.bool (lgtB l key))) ∧ (decide (ltV (List.map dHst (List.map hstD l)) (0 : Int) = (0 : Int)) = false → D.bool false = D.bool (lgtB l key)) := by
  rw [map_dHst, List.length_map]
  refine ⟨⟨l, rfl, h1, h2⟩, fun h => ⟨fun h' => ?_, fun h' => ?_⟩, fun h => ?_⟩
  · unfold lgtB; rw [h, h']; rfl
  · unfold lgtB; rw [h, h']; rfl
  · unfold lgtB; rw [h]; rfl
def lgS (vs : List D) : Option DOut := match vs with | [.sl f xs, .str key] => some ⟨∃ l : List Hst, xs = l.map hstD ∧ l.length ≤ 4398046511104 ∧ ∀ h ∈ l, h.small, .bool (lgtB (xs.map dHst) key)⟩ | _ => none
def lgC : Ctr := ⟨7, lgS, by
  intro vs o ho hp
  unfold lgS at ho
  split at ho
  · rename_i f xs key
    injection ho with ho; subst ho
    obtain ⟨l, rfl, h1, h2⟩ := hp
    simp only
    rw [map_dHst]
    exact dataFun0 (C := gCf 0 [ltC] [] []) (ctrsR_ok [ltC] [] rfl rfl rfl rfl) rfl Tryd.func7 (by kernel_rfl) (by kernel_rfl) (by kernel_rfl) rfl (by kernel_rfl) (lgN f l key h1 h2)
  · cases ho⟩
theorem lgt_iff {l : List Hst} {key : ByteArray} (h : lgtB l key = true) : l.length ≤ 20 ∧ key.size ≤ 200 := by
  unfold lgtB at h
  simp only [Bool.and_eq_true, decide_eq_true_eq] at h
  omega
theorem okl1_hosts {x : List D} (h : OkL reachBytes [.sl true [.int .i64, .str, .int .i64, .str, .int .i64, .sl true [.str, .str]]] x) : ∃ (f : Bool) (l : List Hst), x = [.sl f (l.map hstD)] ∧ (∀ t ∈ l, t.small ∧ rIQ t.w ∧ rIQ t.id) ∧ l.length ≤ 4398046511104 := by
  cases h with | sl hl hz hg hk t =>
  cases t
  rename_i f ys
  obtain ⟨l, rfl, hp⟩ : ∃ l : List Hst, ys = l.map hstD ∧ ∀ t ∈ l, t.small ∧ rIQ t.w ∧ rIQ t.id := by
    refine list_of' fun y hy => ?_
    have ha := hg y hy
    have hb := hk y hy
    cases y with
    | agg ds =>
      obtain ⟨t, h1, h2⟩ := okl_host hb
      exact ⟨t, congrArg D.agg h1, h2⟩
    | _ => cases ha
  refine ⟨f, l, rfl, hp, ?_⟩
  have b : lksB [LK.int .i64, LK.str, LK.int .i64, LK.str, LK.int .i64, LK.sl true [LK.str, LK.str]] = 80 := rfl
  rw [b, List.length_map, lim_val] at hl
  omega
theorem okl1_strQ {x : List D} (h : OkL reachBytes [.str] x) : ∃ s : ByteArray, x = [.str s] := by
  cases h with | str g t =>
  cases t
  exact ⟨_, rfl⟩
end Go.Proofs.YtfclelafcdcilaaDoor.Dv
