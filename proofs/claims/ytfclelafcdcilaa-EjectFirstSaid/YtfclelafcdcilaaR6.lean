/- EjectFirst. -/
import Derived.Test.YtfclelafcdcilaaR5
set_option linter.unusedVariables false
set_option linter.unusedSimpArgs false
namespace Go.Proofs.Ytfclelafcdcilaa.Dv
open Go Go.Proofs
noncomputable def efC : List Ctr := [frC, awakeC 20 (by kernel_rfl)]
/-- a and b begin alike. -/
def efL (p q : Bool) (u v : List Int) : WLoop :=
  { St := Nat
    O := Unit
    T := fun i => [(5, .sl p (u.map iD)), (6, .sl q (v.map iD)), (56, .int .i64 (u.map iD).length), (57, .int .i64 i)]
    ok := fun i => i ≤ u.length ∧ u.length ≤ 1000 ∧ u <+: v
    μ := fun i => u.length - i
    m := fun i => ()
    outs := [{ α := Unit, is := fun _ _ => True, ex := .exit 0, T := fun _ => [] }] }
theorem efR (p q : Bool) (u v : List Int) (i : Nat) (hs : (efL p q u v).ok i) : Tri Try.prog 0 71 (lp Try.f7 8) (tb ((efL p q u v).T i)) ((efL p q u v).S i) ((efL p q u v).q 0 i) := by
  obtain ⟨h1, h2, h3⟩ := hs
  have hA : (List.map iD u).length = u.length := List.length_map ..
  rcases Nat.lt_or_ge i u.length with hi | hi
  · refine round0 (C := tCf 0 [] [] [(58, .t)]) (ctrs_ok ([]) rfl rfl) (by kernel_rfl) (by kernel_rfl) (q := decide ((↑i : Int) < (↑(List.map iD u).length : Int)) = true ∧ ∃ (y : Int), (0 : Int) ≤ (↑i : Int) ∧ (List.map iD u)[(↑i : Int).toNat]? = some (D.int IntKind.i64 y) ∧ ∃ (y_1 : Int), (0 : Int) ≤ (↑i : Int) ∧ (List.map iD v)[(↑i : Int).toNat]? = some (D.int IntKind.i64 y_1) ∧ (decide (y ≠ y_1) = true → False) ∧ (decide (y ≠ y_1) = false → inK IntKind.i64 ((↑i : Int) + (1 : Int)) ∧ ∃ (s' : Nat), (s' ≤ u.length ∧ u.length ≤ (1000 : Nat) ∧ ∃ (t : List Int), u ++ t = v) ∧ (u.length - s').succ ≤ u.length - i ∧ () = () ∧ D.sl p (List.map iD u) = D.sl p (List.map iD u) ∧ D.sl q (List.map iD v) = D.sl q (List.map iD v) ∧ D.int IntKind.i64 (↑(List.map iD u).length : Int) = D.int IntKind.i64 (↑(List.map iD u).length : Int) ∧ D.int IntKind.i64 (↑s' : Int) = D.int IntKind.i64 ((↑i : Int) + (1 : Int)))) (by kernel_rfl) ?_
    have hl := h3.length_le
    obtain ⟨y, hy⟩ : ∃ y, u[i]? = some y := ⟨_, List.getElem?_eq_getElem hi⟩
    have hv : v[i]? = some y := by
      obtain ⟨t, rfl⟩ := h3
      rw [List.getElem?_append_left hi]; exact hy
    exact ⟨decide_eq_true (by omega), y, by omega, by rw [Int.toNat_natCast, List.getElem?_map, hy]; rfl, y, by omega, by rw [Int.toNat_natCast, List.getElem?_map, hv]; rfl, fun t => absurd rfl (of_decide_eq_true t), fun _ => ⟨inkQ (by omega), i + 1, ⟨hi, h2, h3⟩, by omega, rfl, rfl, rfl, rfl, by simp⟩⟩
  · refine round0 (C := tCf 0 [] [] [(58, .f)]) (ctrs_ok ([]) rfl rfl) (by kernel_rfl) (by kernel_rfl) (q := decide ((↑i : Int) < (↑(List.map iD u).length : Int)) = false ∧ ∃ (a : Unit), True ∧ True) (by kernel_rfl) ?_
    exact ⟨decide_eq_false (by omega), (), trivial, trivial⟩
noncomputable def efCf0 : WCfg := { tCf 0 efC [] [(10, .t)] with unr := fun j => if j = 8 then 1 else 0 }
theorem efN0 (f : Bool) (l : List Tm) (n : Int) (hb : 100 < l.length) : decide ((100 : Int) < (↑(List.map tmD l).length : Int)) = true ∧ True ∧ D.bool true = D.bool true := by
  rw [List.length_map]
  exact ⟨decide_eq_true (by omega), trivial, rfl⟩
noncomputable def efCf (p q : Bool) (u v : List Int) : WCfg := { tCf 0 efC [] [(10, .f), (13, .w), (54, .f)] with loops := fun j => match j with | 8 => some ((efL p q u v).row []) | _ => none }
theorem efN (f : Bool) (l : List Tm) (n : Int) (p q : Bool) (u v : List Int) (h1 : l.length ≤ 100) (hu : u = frV l (wr .u64 n % ((l.length : Int) + 2))) (hv : v = frV l l.length) (hp : p = u.isEmpty) (hq : q = v.isEmpty) : decide ((100 : Int) < (↑(List.map tmD l).length : Int)) = false ∧ inK IntKind.i64 ((↑(List.map tmD l).length : Int) + (2 : Int)) ∧ inK IntKind.u64 ((↑(List.map tmD l).length : Int) + (2 : Int)) ∧ (0 : Int) ≤ wr IntKind.u64 n ∧ (0 : Int) < (↑(List.map tmD l).length : Int) + (2 : Int) ∧ inK IntKind.i64 (wr IntKind.u64 n % ((↑(List.map tmD l).length : Int) + (2 : Int))) ∧ (∃ (l_1 : List Tm), List.map tmD l = List.map tmD l_1 ∧ l_1.length ≤ (1000 : Nat)) ∧ (∃ (l_1 : List Tm), List.map tmD l = List.map tmD l_1 ∧ l_1.length ≤ (1000 : Nat)) ∧ (decide ((↑(List.map iD (frV (List.map dTm (List.map tmD l)) (wr IntKind.u64 n % ((↑(List.map tmD l).length : Int) + (2 : Int))))).length : Int) ≠ min (wr IntKind.u64 n % ((↑(List.map tmD l).length : Int) + (2 : Int))) (↑(List.map tmD l).length : Int)) = true → D.bool false = D.bool true) ∧ (decide ((↑(List.map iD (frV (List.map dTm (List.map tmD l)) (wr IntKind.u64 n % ((↑(List.map tmD l).length : Int) + (2 : Int))))).length : Int) ≠ min (wr IntKind.u64 n % ((↑(List.map tmD l).length : Int) + (2 : Int))) (↑(List.map tmD l).length : Int)) = false → (decide ((↑(List.map iD (frV (List.map dTm (List.map tmD l)) (↑(List.map tmD l).length : Int))).length : Int) ≠ (↑(List.map tmD l).length : Int)) = true → D.bool false = D.bool true) ∧ (decide ((↑(List.map iD (frV (List.map dTm (List.map tmD l)) (↑(List.map tmD l).length : Int))).length : Int) ≠ (↑(List.map tmD l).length : Int)) = false → (∃ (l_1 : List Tm), List.map tmD l = List.map tmD l_1 ∧ l_1.length ≤ (1000 : Nat)) ∧ (false = true → D.bool false = D.bool true) ∧ (false = false → (∃ (l_1 : List Tm), List.map tmD l = List.map tmD l_1 ∧ l_1.length ≤ (1000 : Nat)) ∧ decide ((↑(List.map iD (frV (List.map dTm (List.map tmD l)) (IntKind.i64.wrap ((0 : Int) - wr IntKind.u64 n % ((↑(List.map tmD l).length : Int) + (2 : Int)))))).length : Int) ≠ (0 : Int)) = false ∧ ∃ (b : Nat), (b ≤ u.length ∧ u.length ≤ (1000 : Nat) ∧ ∃ (t : List Int), u ++ t = v) ∧ (D.sl p (List.map iD u) = D.sl (frV (List.map dTm (List.map tmD l)) (wr IntKind.u64 n % ((↑(List.map tmD l).length : Int) + (2 : Int)))).isEmpty (List.map iD (frV (List.map dTm (List.map tmD l)) (wr IntKind.u64 n % ((↑(List.map tmD l).length : Int) + (2 : Int))))) ∧ D.sl q (List.map iD v) = D.sl (frV (List.map dTm (List.map tmD l)) (↑(List.map tmD l).length : Int)).isEmpty (List.map iD (frV (List.map dTm (List.map tmD l)) (↑(List.map tmD l).length : Int))) ∧ D.int IntKind.i64 (↑(List.map iD u).length : Int) = D.int IntKind.i64 (↑(List.map iD (frV (List.map dTm (List.map tmD l)) (wr IntKind.u64 n % ((↑(List.map tmD l).length : Int) + (2 : Int))))).length : Int) ∧ D.int IntKind.i64 (↑b : Int) = D.int IntKind.i64 (0 : Int)) ∧ ∀ (a : Unit), True → True ∧ D.bool true = D.bool true))) := by
  have hwr : 0 ≤ wr .u64 n := by show 0 ≤ (n % 18446744073709551616 : Int); omega
  have hmod : 0 ≤ wr .u64 n % ((l.length : Int) + 2) ∧ wr .u64 n % ((l.length : Int) + 2) < (l.length : Int) + 2 := ⟨Int.emod_nonneg _ (by omega), Int.emod_lt_of_pos _ (by omega)⟩
  have okl : ∃ l_1 : List Tm, List.map tmD l = List.map tmD l_1 ∧ l_1.length ≤ 1000 := ⟨l, rfl, by omega⟩
  have hul := fr_len l (wr .u64 n % ((l.length : Int) + 2))
  have hvl := fr_len l l.length
  have hpre := fr_pre l (wr .u64 n % ((l.length : Int) + 2))
  rw [← hu] at hul hpre
  rw [← hv] at hvl hpre
  have hw : IntKind.i64.wrap (0 - wr .u64 n % ((l.length : Int) + 2)) = 0 - wr .u64 n % ((l.length : Int) + 2) := by
    exact inK_wrap (inkQ (by omega))
  have hneg : (frV l (0 - wr .u64 n % ((l.length : Int) + 2))).length = 0 := by
    have := fr_len l (0 - wr .u64 n % ((l.length : Int) + 2))
    omega
  rw [map_dTm, List.length_map, hw, ← hu, ← hv, List.length_map, List.length_map, List.length_map]
  exact ⟨decide_eq_false (by omega), inkQ (by omega), by simp only [inK]; omega, hwr, by omega, inkQ (by omega), okl, okl, fun t => absurd (by omega) (of_decide_eq_true t), fun _ => ⟨fun t => absurd (by omega) (of_decide_eq_true t), fun _ => ⟨okl, fun t => (by cases t), fun _ => ⟨okl, decide_eq_false (by rw [hneg]; simp), 0, ⟨Nat.zero_le _, by omega, hpre⟩, ⟨by rw [hp], by rw [hq], rfl, rfl⟩, fun _ _ => ⟨trivial, rfl⟩⟩⟩⟩⟩
theorem okl1_tms {x : List D} (h : OkL reachBytes [.sl true [.int .i64, .int .i64, .int .i64]] x) : ∃ (f : Bool) (l : List Tm), x = [.sl f (l.map tmD)] ∧ l.length ≤ 17592186043904 := by
  cases h with | sl hl hz hg hk t =>
  cases t
  rename_i f ys
  obtain ⟨l, rfl⟩ : ∃ l : List Tm, ys = l.map tmD := by
    refine list_of fun y hy => ?_
    have ha := hg y hy
    have hb := hk y hy
    cases y with
    | agg ds =>
      cases hb with | int g0 t0 =>
      cases t0 with | int g1 t1 =>
      cases t1 with | int g2 t2 =>
      cases t2
      exact ⟨(_, _, _), rfl⟩
    | _ => cases ha
  refine ⟨f, l, rfl, ?_⟩
  have b : lksB [LK.int .i64, LK.int .i64, LK.int .i64] = 24 := rfl
  rw [b, List.length_map, lim_val] at hl
  omega
theorem ejectFirst_law {x0 : List D} (o0 : OkL reachBytes [.sl true [.int .i64, .int .i64, .int .i64]] x0) {x1 : List D} (o1 : OkL reachBytes [.int .i64] x1) : DataFun Try.prog 7 [vOf false x0, vOf false x1] (.bool true) := by
  obtain ⟨f, l, rfl, hlen⟩ := okl1_tms o0
  obtain ⟨n, rfl, _⟩ := okl1_int o1
  show DataFun Try.prog 7 [.sl f (l.map tmD), .int .i64 n] (.bool true)
  by_cases hb : 100 < l.length
  · exact dataFun0 (C := efCf0) (ctrs_ok efC rfl rfl) rfl Try.func7 (by kernel_rfl) (by kernel_rfl) (by kernel_rfl) rfl (by kernel_rfl) (efN0 f l n hb)
  · exact dataFunL (C := efCf (frV l (wr .u64 n % ((l.length : Int) + 2))).isEmpty (frV l l.length).isEmpty (frV l (wr .u64 n % ((l.length : Int) + 2))) (frV l l.length)) (ctrs_ok efC rfl rfl) rfl Try.func7 (by kernel_rfl) (l := [lp Try.f7 8]) (by kernel_rfl) (fun x hx => by
      rw [List.mem_singleton.1 hx]; exact (efL _ _ _ _).fits 8 [] (by kernel_rfl) rfl (efR _ _ _ _)) (by kernel_rfl) rfl (by kernel_rfl) (efN f l n _ _ _ _ (by omega) rfl rfl rfl rfl)
end Go.Proofs.Ytfclelafcdcilaa.Dv
