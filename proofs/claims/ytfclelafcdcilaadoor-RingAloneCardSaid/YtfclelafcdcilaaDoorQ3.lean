/- RingWeights. -/
import Derived.Test.YtfclelafcdcilaaDoorQ2
set_option linter.unusedVariables false
set_option linter.unusedSimpArgs false
namespace Go.Proofs.YtfclelafcdcilaaDoor.Dv
open Go Go.Proofs
abbrev rIQ (n : Int) : Prop := -9223372036854775808 ≤ n ∧ n ≤ 9223372036854775807
noncomputable def rwC : List Ctr := [wiC', ptCtr, liC, aw23]
def rwRow (h : Hst) : Option Ob := some (.row .own 6 [hstD h])
noncomputable def rwL (h : Hst) (A B : List Int) : WLoop :=
  { St := Nat
    O := Unit
    T := fun i => [(1, .ptr 0 0 0), (4, .sl false (A.map uD)), (5, .sl false (B.map uD)), (51, .int .i64 (A.map uD).length), (52, .int .i64 i)]
    S := fun i => [rwRow h]
    ok := fun i => i ≤ A.length
    μ := fun i => A.length - i
    m := fun _ => ()
    src := [(0, true)]
    outs := [{ α := Unit, is := fun _ _ => True, ex := .exit 0, T := fun _ => [] }] }
theorem rwR (h : Hst) (A B : List Int) (hs : h.small) (hA : A.length < 60) (h1 : ∀ i, i < A.length → A[i]? = some (withV h.addr i) ∧ B[i]? = some (withV h.addr i)) (i : Nat) (hi : (rwL h A B).ok i) : Tri Tryd.prog 0 77 (lp Tryd.f5 9) (tb ((rwL h A B).T i)) ((rwL h A B).S i) ((rwL h A B).q 0 i) := by
  have hi : i ≤ A.length := hi
  have hL : (List.map uD A).length = A.length := List.length_map ..
  rcases Nat.lt_or_ge i A.length with hl | hl
  · refine round0 (C := hCfg rwC [(53, .t), (64, .f), (74, .f)]) (ctrs_ok (rwC) rfl rfl) (by kernel_rfl) (by kernel_rfl) (q := decide ((↑i : Int) < (↑(List.map uD A).length : Int)) = true ∧ ∃ (y : Int), (0 : Int) ≤ (↑i : Int) ∧ (List.map uD A)[(↑i : Int).toNat]? = some (D.int IntKind.u64 y) ∧ ∃ (y_1 : Int), (0 : Int) ≤ (↑i : Int) ∧ (List.map uD B)[(↑i : Int).toNat]? = some (D.int IntKind.u64 y_1) ∧ decide (y ≠ y_1) = false ∧ ∃ (y : Int), (0 : Int) ≤ (↑i : Int) ∧ (List.map uD A)[(↑i : Int).toNat]? = some (D.int IntKind.u64 y) ∧ (h.addr.size ≤ (1152921504606846976 : Nat) ∧ (0 : Int) ≤ (↑i : Int) ∧ (↑i : Int) < (60 : Int)) ∧ decide (y ≠ withV h.addr (↑i : Int).toNat) = false ∧ inK IntKind.i64 ((↑i : Int) + (1 : Int)) ∧ ∃ (s' : Nat), s' ≤ A.length ∧ (A.length - s').succ ≤ A.length - i ∧ () = () ∧ (D.ptr (0 : Nat) (0 : Nat) (0 : Nat) = D.ptr (0 : Nat) (0 : Nat) (0 : Nat) ∧ D.sl false (List.map uD A) = D.sl false (List.map uD A) ∧ D.sl false (List.map uD B) = D.sl false (List.map uD B) ∧ D.int IntKind.i64 (↑(List.map uD A).length : Int) = D.int IntKind.i64 (↑(List.map uD A).length : Int) ∧ D.int IntKind.i64 (↑s' : Int) = D.int IntKind.i64 ((↑i : Int) + (1 : Int))) ∧ (some (Ob.row St.own (6 : Nat) [D.agg [D.int IntKind.i64 h.id, D.str h.addr, D.int IntKind.i64 h.prio, D.str h.zone, D.int IntKind.i64 h.w, D.sl h.f (List.map pairQ h.mt)]]) = none ∨ some (Ob.row St.own (6 : Nat) [D.agg [D.int IntKind.i64 h.id, D.str h.addr, D.int IntKind.i64 h.prio, D.str h.zone, D.int IntKind.i64 h.w, D.sl h.f (List.map pairQ h.mt)]]) = some (Ob.row St.own (6 : Nat) [D.agg [D.int IntKind.i64 h.id, D.str h.addr, D.int IntKind.i64 h.prio, D.str h.zone, D.int IntKind.i64 h.w, D.sl h.f (List.map pairQ h.mt)]]) ∧ true = true)) (by kernel_rfl) ?_
    obtain ⟨hg1, hg2⟩ := h1 i hl
    have ha : h.addr.size ≤ 1152921504606846976 := Nat.le_trans hs.1 (by decide)
    have gA : (List.map uD A)[((i : Int)).toNat]? = some (uD (withV h.addr i)) := by rw [Int.toNat_natCast, List.getElem?_map, hg1]; rfl
    have gB : (List.map uD B)[((i : Int)).toNat]? = some (uD (withV h.addr i)) := by rw [Int.toNat_natCast, List.getElem?_map, hg2]; rfl
    exact ⟨decide_eq_true (by omega), _, by omega, gA, _, by omega, gB, decide_eq_false (fun h => h rfl), _, by omega, gA, ⟨ha, by omega, by omega⟩, decide_eq_false (fun h => h (by rw [Int.toNat_natCast])), inkQ (by omega), i + 1, by omega, by omega, rfl, ⟨rfl, rfl, rfl, rfl, by simp⟩, .inr ⟨rfl, rfl⟩⟩
  · refine round0 (C := hCfg rwC [(53, .f)]) (ctrs_ok (rwC) rfl rfl) (by kernel_rfl) (by kernel_rfl) (q := decide ((↑i : Int) < (↑(List.map uD A).length : Int)) = false ∧ ∃ (a : Unit), True ∧ True) (by kernel_rfl) ?_
    exact ⟨decide_eq_false (by omega), (), trivial, trivial⟩
noncomputable def rwCfg (h : Hst) (A B : List Int) : WCfg := { hCfg rwC [(10, .f), (15, .f), (19, .f), (42, .f), (49, .f)] with loops := fun k => match k with | 9 => some ((rwL h A B).row [(0, true)]) | _ => none }
noncomputable def rwCfg0 : WCfg := { hCfg rwC [(19, .t)] with unr := fun k => if k = 9 then 1 else 0 }
theorem rwN0 (h : Hst) (hs : h.small) (hb : lightH h > 0 ∨ h.w < 1 ∨ 20 ≤ h.w) : (∃ (h_1 : Hst), h_1.small ∧ D.agg [D.int IntKind.i64 h.id, D.str h.addr, D.int IntKind.i64 h.prio, D.str h.zone, D.int IntKind.i64 h.w, D.sl h.f (List.map pairQ h.mt)] = D.agg [D.int IntKind.i64 h_1.id, D.str h_1.addr, D.int IntKind.i64 h_1.prio, D.str h_1.zone, D.int IntKind.i64 h_1.w, D.sl h_1.f (List.map pairQ h_1.mt)]) ∧ (decide ((0 : Int) < if (600 : Int) < lsumQ (List.map dPairQ (List.map pairQ h.mt)) ((↑h.addr.size : Int) + (↑h.zone.size : Int)) then (1 : Int) else (0 : Int)) = true → ((1 : Nat) ≤ (1152921504606846976 : Nat) ∧ true = true) ∧ (true = true → True ∧ D.bool true = D.bool true) ∧ (true = false → D.bool false = D.bool true)) ∧ (decide ((0 : Int) < if (600 : Int) < lsumQ (List.map dPairQ (List.map pairQ h.mt)) ((↑h.addr.size : Int) + (↑h.zone.size : Int)) then (1 : Int) else (0 : Int)) = false → (decide (h.w < (1 : Int)) = true → ((1 : Nat) ≤ (1152921504606846976 : Nat) ∧ true = true) ∧ (true = true → True ∧ D.bool true = D.bool true) ∧ (true = false → D.bool false = D.bool true)) ∧ (decide (h.w < (1 : Int)) = false → decide ((20 : Int) ≤ h.w) = true ∧ ((1 : Nat) ≤ (1152921504606846976 : Nat) ∧ true = true) ∧ (true = true → True ∧ D.bool true = D.bool true) ∧ (true = false → D.bool false = D.bool true))) := by
  rw [map_dPairQ]
  refine ⟨⟨h, hs, rfl⟩, fun _ => ⟨⟨by decide, rfl⟩, fun _ => ⟨trivial, rfl⟩, fun e => by cases e⟩, fun e0 => ⟨fun _ => ⟨⟨by decide, rfl⟩, fun _ => ⟨trivial, rfl⟩, fun e => by cases e⟩, fun e1 => ⟨decide_eq_true ?_, ⟨by decide, rfl⟩, fun _ => ⟨trivial, rfl⟩, fun e => by cases e⟩⟩⟩
  have e0 : ¬ 0 < lightH h := of_decide_eq_false e0
  have e1 := of_decide_eq_false e1
  omega
theorem pts_len {addr : ByteArray} {w : Int} (h : 1 ≤ w) (h2 : w ≤ 20) : (ptsV addr w).length = (w * 3).toNat := by
  unfold ptsV; rw [if_neg (by omega), List.length_map, List.length_range]
theorem pts_get {addr : ByteArray} {w : Int} (h : 1 ≤ w) (h2 : w ≤ 20) {i : Nat} (hi : i < (w * 3).toNat) : (ptsV addr w)[i]? = some (withV addr i) := by
  unfold ptsV; rw [if_neg (by omega), List.getElem?_map, List.getElem?_range hi]; rfl
theorem rwN (h : Hst) (A B : List Int) (hs : h.small) (hb : ¬ (lightH h > 0 ∨ h.w < 1 ∨ 20 ≤ h.w)) (hA : A = ptsV h.addr h.w) (hB : B = ptsV h.addr (h.w + 1)) : (∃ (h_1 : Hst), h_1.small ∧ D.agg [D.int IntKind.i64 h.id, D.str h.addr, D.int IntKind.i64 h.prio, D.str h.zone, D.int IntKind.i64 h.w, D.sl h.f (List.map pairQ h.mt)] = D.agg [D.int IntKind.i64 h_1.id, D.str h_1.addr, D.int IntKind.i64 h_1.prio, D.str h_1.zone, D.int IntKind.i64 h_1.w, D.sl h_1.f (List.map pairQ h_1.mt)]) ∧ decide ((0 : Int) < if (600 : Int) < lsumQ (List.map dPairQ (List.map pairQ h.mt)) ((↑h.addr.size : Int) + (↑h.zone.size : Int)) then (1 : Int) else (0 : Int)) = false ∧ decide (h.w < (1 : Int)) = false ∧ decide ((20 : Int) ≤ h.w) = false ∧ inK IntKind.i64 (h.w + (1 : Int)) ∧ (h.addr.size ≤ (1152921504606846976 : Nat) ∧ (List.map pairQ h.mt).all D.pure = true) ∧ (h.addr.size ≤ (1152921504606846976 : Nat) ∧ (List.map pairQ h.mt).all D.pure = true) ∧ inK IntKind.i64 (h.w * (3 : Int)) ∧ decide ((↑(List.map uD (ptsV h.addr h.w)).length : Int) ≠ h.w * (3 : Int)) = false ∧ inK IntKind.i64 ((↑(List.map uD (ptsV h.addr h.w)).length : Int) + (3 : Int)) ∧ decide ((↑(List.map uD (ptsV h.addr (h.w + (1 : Int)))).length : Int) ≠ (↑(List.map uD (ptsV h.addr h.w)).length : Int) + (3 : Int)) = false ∧ ∃ (b : Nat), b ≤ A.length ∧ ((D.ptr (0 : Nat) (0 : Nat) (0 : Nat) = D.ptr (0 : Nat) (0 : Nat) (0 : Nat) ∧ D.sl false (List.map uD A) = D.sl (decide (h.w < (1 : Int) ∨ (20 : Int) < h.w)) (List.map uD (ptsV h.addr h.w)) ∧ D.sl false (List.map uD B) = D.sl (decide (h.w + (1 : Int) < (1 : Int) ∨ (20 : Int) < h.w + (1 : Int))) (List.map uD (ptsV h.addr (h.w + (1 : Int)))) ∧ D.int IntKind.i64 (↑(List.map uD A).length : Int) = D.int IntKind.i64 (↑(List.map uD (ptsV h.addr h.w)).length : Int) ∧ D.int IntKind.i64 (↑b : Int) = D.int IntKind.i64 (0 : Int)) ∧ (some (Ob.row St.own (6 : Nat) [D.agg [D.int IntKind.i64 h.id, D.str h.addr, D.int IntKind.i64 h.prio, D.str h.zone, D.int IntKind.i64 h.w, D.sl h.f (List.map pairQ h.mt)]]) = none ∨ some (Ob.row St.own (6 : Nat) [D.agg [D.int IntKind.i64 h.id, D.str h.addr, D.int IntKind.i64 h.prio, D.str h.zone, D.int IntKind.i64 h.w, D.sl h.f (List.map pairQ h.mt)]]) = some (Ob.row St.own (6 : Nat) [D.agg [D.int IntKind.i64 h.id, D.str h.addr, D.int IntKind.i64 h.prio, D.str h.zone, D.int IntKind.i64 h.w, D.sl h.f (List.map pairQ h.mt)]]) ∧ true = true)) ∧ ∀ (a : Unit), True → True ∧ D.bool true = D.bool true := by
  have ha : h.addr.size ≤ 1152921504606846976 := Nat.le_trans hs.1 (by decide)
  have l1 := pts_len (addr := h.addr) (w := h.w) (by omega) (by omega)
  have l2 := pts_len (addr := h.addr) (w := h.w + 1) (by omega) (by omega)
  have m1 : (List.map uD (ptsV h.addr h.w)).length = (ptsV h.addr h.w).length := List.length_map ..
  have m2 : (List.map uD (ptsV h.addr (h.w + 1))).length = (ptsV h.addr (h.w + 1)).length := List.length_map ..
  have hno : ¬ 0 < lightH h := fun e => hb (.inl e)
  rw [map_dPairQ]
  subst hA hB
  exact ⟨⟨h, hs, rfl⟩, decide_eq_false hno, decide_eq_false (by omega), decide_eq_false (by omega), inkQ (by omega), ⟨ha, pure_pairQ _⟩, ⟨ha, pure_pairQ _⟩, inkQ (by omega), decide_eq_false (by omega), inkQ (by omega), decide_eq_false (by omega), 0, Nat.zero_le _, ⟨⟨rfl, by rw [decide_eq_false (by omega)], by rw [decide_eq_false (by omega)], rfl, rfl⟩, .inr ⟨rfl, rfl⟩⟩, fun _ _ => ⟨trivial, rfl⟩⟩
theorem okl_pairsQ {ys : List D} (h1 : ∀ y ∈ ys, y.isAgg = true) (h2 : ∀ y ∈ ys, OkL reachBytes [.str, .str] y.cells) : ∃ l : List (ByteArray × ByteArray), ys = l.map pairQ ∧ ∀ p ∈ l, p.1.size ≤ 140737488355328 ∧ p.2.size ≤ 140737488355328 := by
  refine list_of' fun y hy => ?_
  have ha := h1 y hy
  have hb := h2 y hy
  cases y with
  | agg ds =>
    cases hb with | str g0 t0 =>
    cases t0 with | str g1 t1 =>
    cases t1
    exact ⟨(_, _), rfl, Nat.le_trans g0 (by decide), Nat.le_trans g1 (by decide)⟩
  | _ => cases ha
theorem okl_host {x : List D} (o : OkL reachBytes [.int .i64, .str, .int .i64, .str, .int .i64, .sl true [.str, .str]] x) : ∃ h : Hst, x = (hstD h).cells ∧ h.small ∧ rIQ h.w ∧ rIQ h.id := by
  cases o with | int h0 t0 =>
  cases t0 with | str h1 t1 =>
  cases t1 with | int h2 t2 =>
  cases t2 with | str h3 t3 =>
  cases t3 with | int h4 t4 =>
  cases t4 with | sl hl5 ha5 hg5 hk5 t5 =>
  cases t5
  obtain ⟨lm, rfl, hp⟩ := okl_pairsQ hg5 hk5
  refine ⟨⟨_, _, _, _, _, _, lm⟩, rfl, ⟨Nat.le_trans h1 (by decide), Nat.le_trans h3 (by decide), ?_, hp⟩, wf_i64 h4, wf_i64 h0⟩
  have b32 : lksB [LK.str, LK.str] = 32 := rfl
  rw [b32, List.length_map, lim_val] at hl5
  simp only
  omega
theorem ringWeights_law {x0 : List D} (o0 : OkL reachBytes [.int .i64, .str, .int .i64, .str, .int .i64, .sl true [.str, .str]] x0) : DataFun Tryd.prog 5 [vOf true x0] (.bool true) := by
  obtain ⟨h, rfl, hs, hw, _⟩ := okl_host o0
  have hv : vOf true (hstD h).cells = hstD h := rfl
  rw [hv]
  by_cases hb : lightH h > 0 ∨ h.w < 1 ∨ 20 ≤ h.w
  · exact dataFun0 (C := rwCfg0) (ctrs_ok rwC rfl rfl) rfl Tryd.func5 (by kernel_rfl) (by kernel_rfl) (by kernel_rfl) rfl (by kernel_rfl) (rwN0 h hs hb)
  · refine dataFunL (C := rwCfg h (ptsV h.addr h.w) (ptsV h.addr (h.w + 1))) (ctrs_ok rwC rfl rfl) rfl Tryd.func5 (by kernel_rfl) (l := [lp Tryd.f5 9]) (by kernel_rfl) (fun x hx => ?_) (by kernel_rfl) rfl (by kernel_rfl) (rwN h _ _ hs hb rfl rfl)
    rw [List.mem_singleton.1 hx]
    have l1 := pts_len (addr := h.addr) (w := h.w) (by omega) (by omega)
    exact (rwL h _ _).fits 9 [(0, true)] (by kernel_rfl) rfl (rwR h _ _ hs (by omega) fun i hi => ⟨pts_get (by omega) (by omega) (by omega), pts_get (by omega) (by omega) (by omega)⟩)
end Go.Proofs.YtfclelafcdcilaaDoor.Dv
