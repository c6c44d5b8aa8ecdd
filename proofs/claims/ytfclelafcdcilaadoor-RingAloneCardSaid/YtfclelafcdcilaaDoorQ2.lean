/- Hosts on the ring: Points; RingWeights. -/
import Derived.Test.YtfclelafcdcilaaDoorQ1
import Derived.Test.YtfclelafcdcilaaDoorG2
set_option linter.unusedVariables false
set_option linter.unusedSimpArgs false
namespace Go.Proofs.YtfclelafcdcilaaDoor.Dv
open Go Go.Proofs
def uD (n : Int) : D := .int .u64 n
def dU : D → Int
  | .int _ n => n
  | _ => 0
theorem map_dU (l : List Int) : (l.map uD).map dU = l := by rw [List.map_map]; exact (List.map_congr_left fun x _ => rfl).trans (List.map_id l)
theorem pure_uD (l : List Int) : (l.map uD).all D.pure = true := by rw [List.all_eq_true]; intro x hx; obtain ⟨n, _, rfl⟩ := List.mem_map.1 hx; rfl
theorem okEl_uD (l : List Int) : (l.map uD).all (okEl 1) = true := by rw [List.all_eq_true]; intro x hx; obtain ⟨n, _, rfl⟩ := List.mem_map.1 hx; rfl
theorem outD_ofQ {id n : Nat} : ∀ {l : List D}, l.length = n + 1 → outD id l = .ms id 0 (n + 1) (n + 1) false
  | [], h => by simp at h
  | x :: l, h => by unfold outD; rw [h]
theorem outO_ofQ {sz : Nat} : ∀ {l : List D}, l ≠ [] → outO sz l = some (.row .own sz l)
  | [], h => absurd rfl h
  | x :: l, h => rfl
theorem inkQ {x : Int} (h : -9223372036854775808 ≤ x ∧ x ≤ 9223372036854775807) : inK .i64 x := h
def pairQ (p : ByteArray × ByteArray) : D := .agg [.str p.1, .str p.2]
def dPairQ : D → ByteArray × ByteArray
  | .agg [.str a, .str b] => (a, b)
  | _ => (.empty, .empty)
theorem map_dPairQ (l : List (ByteArray × ByteArray)) : (l.map pairQ).map dPairQ = l := by rw [List.map_map]; exact (List.map_congr_left fun x _ => rfl).trans (List.map_id l)
theorem pure_pairQ (l : List (ByteArray × ByteArray)) : (l.map pairQ).all D.pure = true := by rw [List.all_eq_true]; intro x hx; obtain ⟨n, _, rfl⟩ := List.mem_map.1 hx; rfl
structure Hst where
  id : Int
  addr : ByteArray
  prio : Int
  zone : ByteArray
  w : Int
  f : Bool
  mt : List (ByteArray × ByteArray)
def hstD (h : Hst) : D := .agg [.int .i64 h.id, .str h.addr, .int .i64 h.prio, .str h.zone, .int .i64 h.w, .sl h.f (h.mt.map pairQ)]
def Hst.small (h : Hst) : Prop := h.addr.size ≤ 140737488355328 ∧ h.zone.size ≤ 140737488355328 ∧ h.mt.length ≤ 4398046511104 ∧ ∀ p ∈ h.mt, p.1.size ≤ 140737488355328 ∧ p.2.size ≤ 140737488355328
def codsH : TypeId → Option Codec
  | 3 => some ⟨Int, iD⟩
  | 4 => some ⟨Bool, fun b => .bool b⟩
  | 36 => some ⟨Int, uD⟩
  | 47 => some ⟨ByteArray × ByteArray, pairQ⟩
  | 28 => some ⟨Hst, hstD⟩
  | _ => none
def hCfg (l : List Ctr) (h : List (Nat × Hn)) : WCfg := { spec := specOf l, cod := codsH, H := hints h }
noncomputable def ptsV (addr : ByteArray) (w : Int) : List Int := if w < 1 ∨ 20 < w then [] else (List.range (w * 3).toNat).map (withV addr)
theorem oDq (id : Nat) (us : List Int) (k : Int) : outD id (List.map uD (us ++ [k])) = .ms id 0 ((List.map uD us).length + 1) ((List.map uD us).length + 1) false := outD_ofQ (by rw [List.map_append, List.length_append]; rfl)
theorem oRq (us : List Int) (k : Int) : outO 1 (List.map uD (us ++ [k])) = some (.row .own 1 (List.take (List.map uD us).length (List.map uD us) ++ [uD k])) ∧ (List.take (List.map uD us).length (List.map uD us) ++ [uD k]).all D.pure = true := by
  have e : List.take (List.map uD us).length (List.map uD us) ++ [uD k] = List.map uD (us ++ [k]) := by rw [List.take_length, List.map_append]; rfl
  rw [e]
  exact ⟨outO_ofQ (by simp), pure_uD _⟩
noncomputable def ptC : List Ctr := [wiC]
noncomputable def ptL (a b c : Int) (addr zone : ByteArray) (f : Bool) (xs : List D) : WLoop :=
  { St := Nat × List Int
    O := List Int
    T := fun s => [(1, .ptr 0 0 0), (3, outD 1 (s.2.map uD)), (15, .int .i64 (c * 3)), (16, .int .i64 s.1)]
    S := fun s => [some (.row .own 6 [.agg [.int .i64 a, .str addr, .int .i64 b, .str zone, .int .i64 c, .sl f xs]]), outO 1 (s.2.map uD)]
    ok := fun s => (s.1 : Int) ≤ c * 3 ∧ s.2 = (List.range s.1).map (withV addr) ∧ 1 ≤ c ∧ c ≤ 20 ∧ addr.size ≤ 1152921504606846976
    μ := fun s => (c * 3).toNat - s.1
    m := fun _ => (List.range (c * 3).toNat).map (withV addr)
    src := [(0, true), (3, true)]
    outs := [{ α := Int × List Int, is := fun o z => o = z.1 :: z.2, ex := .exit 0, src := [(1, true)], T := fun z => [(3, outD 0 ((z.1 :: z.2).map uD))], S := fun z => [outO 1 ((z.1 :: z.2).map uD)] }] }
theorem ptR (a b c : Int) (addr zone : ByteArray) (f : Bool) (xs : List D) (hx : xs.all D.pure = true) (s : (ptL a b c addr zone f xs).St) (hs : (ptL a b c addr zone f xs).ok s) : Tri Tryd.prog 0 28 (lp Tryd.f14 5) (tb ((ptL a b c addr zone f xs).T s)) ((ptL a b c addr zone f xs).S s) ((ptL a b c addr zone f xs).q 0 s) := by
  obtain ⟨i, u⟩ := s
  obtain ⟨h1, h2, h3, h4, h5⟩ := hs
  simp only at h1 h2
  have hin : inK .i64 ((i : Int) + 1) := inkQ (by omega)
  have hsn : ∀ v : List Int, v = List.map (withV addr) (List.range i) → v ++ [withV addr i] = List.map (withV addr) (List.range (i + 1)) := fun v hv => by rw [hv, List.range_succ, List.map_append]; rfl
  rcases Int.lt_or_le (i : Int) (c * 3) with h | h
  · cases u with
    | nil =>
      refine round0 (C := hCfg ptC [(17, .t)]) (ctrs_ok (ptC) rfl rfl) (by kernel_rfl) (by kernel_rfl) (q := decide ((↑i : Int) < c * (3 : Int)) = true ∧ (addr.size ≤ (1152921504606846976 : Nat) ∧ (0 : Int) ≤ (↑i : Int) ∧ (↑i : Int) < (60 : Int)) ∧ inK IntKind.i64 ((↑i : Int) + (1 : Int)) ∧ ∃ (s' : Nat × List Int), ((↑s'.fst : Int) ≤ c * (3 : Int) ∧ s'.snd = List.map (withV addr) (List.range s'.fst) ∧ (1 : Int) ≤ c ∧ c ≤ (20 : Int) ∧ addr.size ≤ (1152921504606846976 : Nat)) ∧ ((c * (3 : Int)).toNat - s'.fst).succ ≤ (c * (3 : Int)).toNat - i ∧ List.map (withV addr) (List.range (c * (3 : Int)).toNat) = List.map (withV addr) (List.range (c * (3 : Int)).toNat) ∧ (D.ptr (0 : Nat) (0 : Nat) (0 : Nat) = D.ptr (0 : Nat) (0 : Nat) (0 : Nat) ∧ outD (1 : Nat) (List.map uD s'.snd) = D.ms (1 : Nat) (0 : Nat) (1 : Nat) (1 : Nat) false ∧ D.int IntKind.i64 (c * (3 : Int)) = D.int IntKind.i64 (c * (3 : Int)) ∧ D.int IntKind.i64 (↑s'.fst : Int) = D.int IntKind.i64 ((↑i : Int) + (1 : Int))) ∧ (some (Ob.row St.own (6 : Nat) [D.agg [D.int IntKind.i64 a, D.str addr, D.int IntKind.i64 b, D.str zone, D.int IntKind.i64 c, D.sl f xs]]) = none ∨ some (Ob.row St.own (6 : Nat) [D.agg [D.int IntKind.i64 a, D.str addr, D.int IntKind.i64 b, D.str zone, D.int IntKind.i64 c, D.sl f xs]]) = some (Ob.row St.own (6 : Nat) [D.agg [D.int IntKind.i64 a, D.str addr, D.int IntKind.i64 b, D.str zone, D.int IntKind.i64 c, D.sl f xs]]) ∧ true = true) ∧ (outO (1 : Nat) (List.map uD s'.snd) = none ∨ outO (1 : Nat) (List.map uD s'.snd) = some (Ob.row St.own (1 : Nat) [D.int IntKind.u64 (withV addr (↑i : Int).toNat)]) ∧ true = true)) (by kernel_rfl) ?_
      refine ⟨decide_eq_true h, ⟨h5, by omega, by omega⟩, hin, (i + 1, [] ++ [withV addr i]), ⟨by omega, hsn [] h2, h3, h4, h5⟩, by omega, rfl, ⟨rfl, oDq 1 [] _, rfl, rfl⟩, .inr ⟨rfl, rfl⟩, .inr (oRq [] _)⟩
    | cons y ys =>
      refine round0 (C := hCfg ptC [(17, .t)]) (ctrs_ok (ptC) rfl rfl) (by kernel_rfl) (by kernel_rfl) (q := decide ((↑i : Int) < c * (3 : Int)) = true ∧ (addr.size ≤ (1152921504606846976 : Nat) ∧ (0 : Int) ≤ (↑i : Int) ∧ (↑i : Int) < (60 : Int)) ∧ (0 : Nat) + (List.map uD (y :: ys)).length ≤ (List.map uD (y :: ys)).length ∧ (List.map uD (y :: ys)).length ≤ (List.map uD (y :: ys)).length ∧ ((List.map uD (y :: ys)).length + (1 : Nat)) * (8 : Nat) ≤ (140737488355328 : Nat) ∧ (List.map uD (y :: ys)).length.succ ≤ (List.map uD (y :: ys)).length + (1 : Nat) ∧ (0 : Nat) = (0 : Nat) ∧ inK IntKind.i64 ((↑i : Int) + (1 : Int)) ∧ ∃ (s' : Nat × List Int), ((↑s'.fst : Int) ≤ c * (3 : Int) ∧ s'.snd = List.map (withV addr) (List.range s'.fst) ∧ (1 : Int) ≤ c ∧ c ≤ (20 : Int) ∧ addr.size ≤ (1152921504606846976 : Nat)) ∧ ((c * (3 : Int)).toNat - s'.fst).succ ≤ (c * (3 : Int)).toNat - i ∧ List.map (withV addr) (List.range (c * (3 : Int)).toNat) = List.map (withV addr) (List.range (c * (3 : Int)).toNat) ∧ (D.ptr (0 : Nat) (0 : Nat) (0 : Nat) = D.ptr (0 : Nat) (0 : Nat) (0 : Nat) ∧ outD (1 : Nat) (List.map uD s'.snd) = D.ms (1 : Nat) (0 : Nat) ((List.map uD (y :: ys)).length + (1 : Nat)) ((List.map uD (y :: ys)).length + (1 : Nat)) false ∧ D.int IntKind.i64 (c * (3 : Int)) = D.int IntKind.i64 (c * (3 : Int)) ∧ D.int IntKind.i64 (↑s'.fst : Int) = D.int IntKind.i64 ((↑i : Int) + (1 : Int))) ∧ (some (Ob.row St.own (6 : Nat) [D.agg [D.int IntKind.i64 a, D.str addr, D.int IntKind.i64 b, D.str zone, D.int IntKind.i64 c, D.sl f xs]]) = none ∨ some (Ob.row St.own (6 : Nat) [D.agg [D.int IntKind.i64 a, D.str addr, D.int IntKind.i64 b, D.str zone, D.int IntKind.i64 c, D.sl f xs]]) = some (Ob.row St.own (6 : Nat) [D.agg [D.int IntKind.i64 a, D.str addr, D.int IntKind.i64 b, D.str zone, D.int IntKind.i64 c, D.sl f xs]]) ∧ true = true) ∧ (outO (1 : Nat) (List.map uD s'.snd) = none ∨ outO (1 : Nat) (List.map uD s'.snd) = some (Ob.row St.own (1 : Nat) (List.take (List.map uD (y :: ys)).length (List.map uD (y :: ys)) ++ [D.int IntKind.u64 (withV addr (↑i : Int).toNat)])) ∧ (List.take (List.map uD (y :: ys)).length (List.map uD (y :: ys)) ++ [D.int IntKind.u64 (withV addr (↑i : Int).toNat)]).all D.pure = true)) (by kernel_rfl) ?_
      have hU : (List.map uD (y :: ys)).length ≤ 60 := by rw [List.length_map, h2, List.length_map, List.length_range]; omega
      refine ⟨decide_eq_true h, ⟨h5, by omega, by omega⟩, by omega, Nat.le_refl _, by omega, Nat.le_refl _, rfl, hin, (i + 1, (y :: ys) ++ [withV addr i]), ⟨by omega, hsn (y :: ys) h2, h3, h4, h5⟩, by omega, rfl, ⟨rfl, oDq 1 (y :: ys) _, rfl, rfl⟩, .inr ⟨rfl, rfl⟩, .inr (oRq (y :: ys) _)⟩
  · cases u with
    | nil =>
      have := congrArg List.length h2
      rw [List.length_map, List.length_range] at this
      exact absurd this (by simp; omega)
    | cons y ys =>
      refine round0 (C := hCfg ptC [(17, .f)]) (ctrs_ok (ptC) rfl rfl) (by kernel_rfl) (by kernel_rfl) (q := decide ((↑i : Int) < c * (3 : Int)) = false ∧ ∃ (a : Int × List Int), List.map (withV addr) (List.range (c * (3 : Int)).toNat) = a.fst :: a.snd ∧ D.ms (0 : Nat) (0 : Nat) (List.map uD (a.fst :: a.snd)).length (List.map uD (a.fst :: a.snd)).length false = D.ms (0 : Nat) (0 : Nat) (List.map uD (y :: ys)).length (List.map uD (y :: ys)).length false ∧ (some (Ob.row St.own (1 : Nat) (List.map uD (a.fst :: a.snd))) = none ∨ some (Ob.row St.own (1 : Nat) (List.map uD (a.fst :: a.snd))) = some (Ob.row St.own (1 : Nat) (List.map uD (y :: ys))) ∧ (List.map uD (y :: ys)).all D.pure = true)) (by kernel_rfl) ?_
      exact ⟨decide_eq_false (by omega), (y, ys), by rw [h2]; congr 2; omega, rfl, .inr ⟨rfl, pure_uD _⟩⟩
noncomputable def ptCfg (a b c : Int) (addr zone : ByteArray) (f : Bool) (xs : List D) (h1 : Hn) : WCfg := { hCfg ptC [(12, h1)] with loops := fun k => match k with | 5 => some ((ptL a b c addr zone f xs).row [(0, true), (1000, true)]) | _ => none }
theorem ptN1 (a b c : Int) (addr zone : ByteArray) (f : Bool) (xs : List D) (hc : c < 1 ∨ 20 < c) : (decide (c < (1 : Int)) = true → D.sl true [] = D.sl true []) ∧ (decide (c < (1 : Int)) = false → decide ((20 : Int) < c) = true ∧ D.sl true [] = D.sl true []) := by
  refine ⟨fun _ => rfl, fun h => ⟨?_, rfl⟩⟩
  have h := of_decide_eq_false h
  exact decide_eq_true (by omega)
theorem ptN2 (a b c : Int) (addr zone : ByteArray) (f : Bool) (xs : List D) (hc : 1 ≤ c ∧ c ≤ 20) (ha : addr.size ≤ 1152921504606846976) : (decide (c < (1 : Int)) = true → D.sl true [] = D.sl false (List.map uD (ptsV addr c))) ∧ (decide (c < (1 : Int)) = false → decide ((20 : Int) < c) = false ∧ inK IntKind.i64 (c * (3 : Int)) ∧ ∃ (b_1 : Nat × List Int), ((↑b_1.fst : Int) ≤ c * (3 : Int) ∧ b_1.snd = List.map (withV addr) (List.range b_1.fst) ∧ (1 : Int) ≤ c ∧ c ≤ (20 : Int) ∧ addr.size ≤ (1152921504606846976 : Nat)) ∧ ((D.ptr (0 : Nat) (0 : Nat) (0 : Nat) = D.ptr (0 : Nat) (0 : Nat) (0 : Nat) ∧ outD (1 : Nat) (List.map uD b_1.snd) = D.sl true [] ∧ D.int IntKind.i64 (c * (3 : Int)) = D.int IntKind.i64 (c * (3 : Int)) ∧ D.int IntKind.i64 (↑b_1.fst : Int) = D.int IntKind.i64 (0 : Int)) ∧ (some (Ob.row St.own (6 : Nat) [D.agg [D.int IntKind.i64 a, D.str addr, D.int IntKind.i64 b, D.str zone, D.int IntKind.i64 c, D.sl f xs]]) = none ∨ some (Ob.row St.own (6 : Nat) [D.agg [D.int IntKind.i64 a, D.str addr, D.int IntKind.i64 b, D.str zone, D.int IntKind.i64 c, D.sl f xs]]) = some (Ob.row St.own (6 : Nat) [D.agg [D.int IntKind.i64 a, D.str addr, D.int IntKind.i64 b, D.str zone, D.int IntKind.i64 c, D.sl f xs]]) ∧ true = true) ∧ (outO (1 : Nat) (List.map uD b_1.snd) = none ∨ outO (1 : Nat) (List.map uD b_1.snd) = none ∧ False)) ∧ ∀ (a : Int × List Int), List.map (withV addr) (List.range (c * (3 : Int)).toNat) = a.fst :: a.snd → (0 : Nat) + (List.map uD (a.fst :: a.snd)).length ≤ (List.map uD (a.fst :: a.snd)).length ∧ (List.take (List.map uD (a.fst :: a.snd)).length (List.drop (0 : Nat) (List.map uD (a.fst :: a.snd)))).all D.pure = true ∧ D.sl false (List.take (List.map uD (a.fst :: a.snd)).length (List.drop (0 : Nat) (List.map uD (a.fst :: a.snd)))) = D.sl false (List.map uD (ptsV addr c))) := by
  refine ⟨fun h => ?_, fun _ => ⟨decide_eq_false (by omega), inkQ (by omega), (0, []), ⟨by show (0 : Int) ≤ _; omega, rfl, hc.1, hc.2, ha⟩, ⟨⟨rfl, rfl, rfl, rfl⟩, .inr ⟨rfl, rfl⟩, .inl rfl⟩, fun z hz => ?_⟩⟩
  · have := of_decide_eq_true h; omega
  · have hp : ptsV addr c = z.1 :: z.2 := by unfold ptsV; rw [if_neg (by omega)]; exact hz
    rw [hp, List.drop_zero, List.take_length]
    exact ⟨by omega, pure_uD _, rfl⟩
noncomputable def ptS (vs : List D) : Option DOut := match vs with | [.agg [.int .i64 a, .str addr, .int .i64 b, .str zone, .int .i64 c, .sl f xs]] => some ⟨addr.size ≤ 1152921504606846976 ∧ xs.all D.pure = true, .sl (decide (c < 1 ∨ 20 < c)) ((ptsV addr c).map uD)⟩ | _ => none
/-- ring.Points. -/
noncomputable def ptCtr : Ctr := ⟨14, ptS, by
  intro vs o ho hp
  unfold ptS at ho
  split at ho
  · rename_i a addr b zone c f xs
    injection ho with ho; subst ho
    obtain ⟨ha, hx⟩ := hp
    have fits : ∀ (h1 : Hn), ∀ x ∈ [lp Tryd.f14 5], LoopFits Tryd.prog (ptCfg a b c addr zone f xs h1) 28 x := by
      intro h1 x hx'
      rw [List.mem_singleton.1 hx']
      exact (ptL a b c addr zone f xs).fits 5 [(0, true), (1000, true)] (by kernel_rfl) rfl (ptR a b c addr zone f xs hx)
    by_cases hc : c < 1 ∨ 20 < c
    · have e : ptsV addr c = [] := if_pos hc
      rw [decide_eq_true hc, e]
      exact dataFunL (C := ptCfg a b c addr zone f xs .t) (ctrs_ok ptC rfl rfl) rfl Tryd.func14 (by kernel_rfl) (by kernel_rfl) (fits .t) (by kernel_rfl) rfl (by kernel_rfl) (ptN1 a b c addr zone f xs hc)
    · rw [decide_eq_false hc]
      exact dataFunL (C := ptCfg a b c addr zone f xs .f) (ctrs_ok ptC rfl rfl) rfl Tryd.func14 (by kernel_rfl) (by kernel_rfl) (fits .f) (by kernel_rfl) rfl (by kernel_rfl) (ptN2 a b c addr zone f xs (by omega) ha)
  · cases ho⟩
/-! ### Light -/
def lsumQ : List (ByteArray × ByteArray) → Int → Int
  | [], n => n
  | p :: r, n => lsumQ r (wr .i64 (n + (1 + p.1.size + p.2.size)))
def lightH (h : Hst) : Int := if 600 < lsumQ h.mt ((h.addr.size : Int) + h.zone.size) then 1 else 0
def liL (f : Bool) : WLoop :=
  { St := List (ByteArray × ByteArray) × List (ByteArray × ByteArray) × Int
    O := Int
    T := fun s => [(3, .int .i64 s.2.2), (14, .sl f ((s.1 ++ s.2.1).map pairQ)), (15, .int .i64 ((s.1 ++ s.2.1).map pairQ).length), (16, .int .i64 s.1.length)]
    ok := fun s => (s.1 ++ s.2.1).length ≤ 4398046511104 ∧ ∀ p ∈ s.2.1, p.1.size ≤ 140737488355328 ∧ p.2.size ≤ 140737488355328
    μ := fun s => s.2.1.length
    m := fun s => lsumQ s.2.1 s.2.2
    outs := [{ α := Int, is := fun o a => o = a, ex := .exit 0, T := fun a => [(3, .int .i64 a)] }] }
theorem liR (f : Bool) (s : (liL f).St) (hs : (liL f).ok s) : Tri Tryd.prog 0 33 (lp Tryd.f13 3) (tb ((liL f).T s)) ((liL f).S s) ((liL f).q 0 s) := by
  obtain ⟨a, r, n⟩ := s
  obtain ⟨h1, h2⟩ := hs
  simp only at h1 h2
  cases r with
  | nil =>
    refine round0 (C := hCfg [] [(17, .f)]) (ctrs_ok ([]) rfl rfl) (by kernel_rfl) (by kernel_rfl) (q := decide ((↑a.length : Int) < (↑(List.map pairQ (a ++ [])).length : Int)) = false ∧ ∃ (a : Int), n = a ∧ D.int IntKind.i64 a = D.int IntKind.i64 n) (by kernel_rfl) ?_
    exact ⟨by simp, _, rfl, by trivial⟩
  | cons p r =>
    refine round0 (C := hCfg [] [(17, .t), (29, .w)]) (ctrs_ok ([]) rfl rfl) (by kernel_rfl) (by kernel_rfl) (q := decide ((↑a.length : Int) < (↑(List.map pairQ (a ++ p :: r)).length : Int)) = true ∧ ∃ (y : ByteArray × ByteArray), (0 : Int) ≤ (↑a.length : Int) ∧ (List.map pairQ (a ++ p :: r))[(↑a.length : Int).toNat]? = some (D.agg [D.str y.fst, D.str y.snd]) ∧ inK IntKind.i64 ((1 : Int) + (↑y.fst.size : Int)) ∧ inK IntKind.i64 ((1 : Int) + (↑y.fst.size : Int) + (↑y.snd.size : Int)) ∧ inK IntKind.i64 ((↑a.length : Int) + (1 : Int)) ∧ ∃ (s' : List (ByteArray × ByteArray) × List (ByteArray × ByteArray) × Int), ((s'.fst ++ s'.snd.fst).length ≤ (4398046511104 : Nat) ∧ ∀ (p : ByteArray × ByteArray), List.Mem p s'.snd.fst → p.fst.size ≤ (140737488355328 : Nat) ∧ p.snd.size ≤ (140737488355328 : Nat)) ∧ s'.snd.fst.length.succ ≤ (p :: r).length ∧ lsumQ s'.snd.fst s'.snd.snd = lsumQ (p :: r) n ∧ D.int IntKind.i64 s'.snd.snd = D.int IntKind.i64 (wr IntKind.i64 (n + ((1 : Int) + (↑y.fst.size : Int) + (↑y.snd.size : Int)))) ∧ D.sl f (List.map pairQ (s'.fst ++ s'.snd.fst)) = D.sl f (List.map pairQ (a ++ p :: r)) ∧ D.int IntKind.i64 (↑(List.map pairQ (s'.fst ++ s'.snd.fst)).length : Int) = D.int IntKind.i64 (↑(List.map pairQ (a ++ p :: r)).length : Int) ∧ D.int IntKind.i64 (↑s'.fst.length : Int) = D.int IntKind.i64 ((↑a.length : Int) + (1 : Int))) (by kernel_rfl) ?_
    have hl : a.length + (r.length + 1) ≤ 4398046511104 := by simpa using h1
    obtain ⟨g1, g2⟩ := h2 p (List.mem_cons_self ..)
    simp only [inK]
    refine ⟨by simp; omega, p, by omega, get_midI pairQ a p r, by omega, by omega, by omega, (a ++ [p], r, wr .i64 (n + (1 + p.1.size + p.2.size))), ⟨by simpa using h1, fun x hx => h2 x (List.mem_cons_of_mem _ hx)⟩, Nat.le_refl _, rfl, ?_⟩
    simp
noncomputable def liCfg (f : Bool) : WCfg := { hCfg [] [] with loops := fun k => match k with | 3 => some ((liL f).row []) | _ => none }
theorem liN {h : Hst} (hs : h.small) : inK IntKind.i64 ((↑h.addr.size : Int) + (↑h.zone.size : Int)) ∧ ∃ (b : List (ByteArray × ByteArray) × List (ByteArray × ByteArray) × Int), ((b.fst ++ b.snd.fst).length ≤ (4398046511104 : Nat) ∧ ∀ (p : ByteArray × ByteArray), List.Mem p b.snd.fst → p.fst.size ≤ (140737488355328 : Nat) ∧ p.snd.size ≤ (140737488355328 : Nat)) ∧ (D.int IntKind.i64 b.snd.snd = D.int IntKind.i64 ((↑h.addr.size : Int) + (↑h.zone.size : Int)) ∧ D.sl h.f (List.map pairQ (b.fst ++ b.snd.fst)) = D.sl h.f (List.map pairQ h.mt) ∧ D.int IntKind.i64 (↑(List.map pairQ (b.fst ++ b.snd.fst)).length : Int) = D.int IntKind.i64 (↑(List.map pairQ h.mt).length : Int) ∧ D.int IntKind.i64 (↑b.fst.length : Int) = D.int IntKind.i64 (0 : Int)) ∧ ∀ (a : Int), lsumQ b.snd.fst b.snd.snd = a → (decide ((600 : Int) < a) = true → D.int IntKind.i64 (1 : Int) = D.int IntKind.i64 (lightH h)) ∧ (decide ((600 : Int) < a) = false → D.int IntKind.i64 (0 : Int) = D.int IntKind.i64 (lightH h)) := by
  obtain ⟨h1, h2, h3, h4⟩ := hs
  simp only [inK]
  refine ⟨by omega, ([], h.mt, (h.addr.size : Int) + h.zone.size), ⟨by simpa using h3, h4⟩, by simp, fun a ha => ⟨fun h => ?_, fun h => ?_⟩⟩
  · have h : 600 < a := of_decide_eq_true h
    unfold lightH
    rw [show lsumQ _ _ = a from ha, if_pos h]
  · have h : ¬ 600 < a := of_decide_eq_false h
    unfold lightH
    rw [show lsumQ _ _ = a from ha, if_neg h]
def lhS (vs : List D) : Option DOut := match vs with | [.agg [.int .i64 a, .str addr, .int .i64 b, .str zone, .int .i64 c, .sl f xs]] => some ⟨∃ h : Hst, h.small ∧ .agg [.int .i64 a, .str addr, .int .i64 b, .str zone, .int .i64 c, .sl f xs] = hstD h, .int .i64 (if 600 < lsumQ (xs.map dPairQ) ((addr.size : Int) + zone.size) then 1 else 0)⟩ | _ => none
def liC : Ctr := ⟨13, lhS, by
  intro vs o ho hp
  unfold lhS at ho
  split at ho
  · injection ho with ho; subst ho
    obtain ⟨h, hs, he⟩ := hp
    simp only at he ⊢
    have hm := map_dPairQ h.mt
    injection he with he
    simp only [List.cons.injEq, D.int.injEq, D.str.injEq, D.sl.injEq, true_and, and_true] at he
    obtain ⟨k1, k2, k3, k4, k5, k6, k7⟩ := he
    subst k1 k2 k3 k4 k5 k6 k7
    rw [hm]
    exact dataFunL (C := liCfg h.f) (ctrs_ok [] rfl rfl) rfl Tryd.func13 (by kernel_rfl) (l := [lp Tryd.f13 3]) (by kernel_rfl) (fun x hx => by rw [List.mem_singleton.1 hx]; exact (liL h.f).fits 3 [] (by kernel_rfl) rfl (liR h.f)) (by kernel_rfl) (by kernel_rfl) (by kernel_rfl) (liN hs)
  · cases ho⟩
end Go.Proofs.YtfclelafcdcilaaDoor.Dv
