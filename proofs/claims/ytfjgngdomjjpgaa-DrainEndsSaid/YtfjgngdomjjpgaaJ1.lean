/- Hosts that leave (printed by wip/tools/stat.py). -/
import Derived.Test.YtfjgngdomjjpgaaA0
set_option linter.unusedVariables false
set_option linter.unusedSimpArgs false
namespace Go.Proofs.Ytfjgngdomjjpgaa.Dv
open Go Go.Proofs
abbrev rI (n : Int) : Prop := -9223372036854775808 ≤ n ∧ n ≤ 9223372036854775807
def pairD (p : ByteArray × ByteArray) : D := .agg [.str p.1, .str p.2]
def dPair : D → ByteArray × ByteArray
  | .agg [.str a, .str b] => (a, b)
  | _ => (.empty, .empty)
theorem map_dPair (l : List (ByteArray × ByteArray)) : (l.map pairD).map dPair = l := by rw [List.map_map]; exact (List.map_congr_left fun x _ => rfl).trans (List.map_id l)
structure Stat where
  id : Int
  addr : ByteArray
  prio : Int
  zone : ByteArray
  w : Int
  f : Bool
  mt : List (ByteArray × ByteArray)
  up : Bool
  run : Int
  forced : Int
  wait : Int
  errors : Int
  bok : Int
  ball : Int
  out : Bool
  frm : Int
  till : Int
  times : Int
  drains : Bool
  gone : Int
  since : Int
  active : Int
def Stat.host (t : Stat) : D := .agg [.int .i64 t.id, .str t.addr, .int .i64 t.prio, .str t.zone, .int .i64 t.w, .sl t.f (t.mt.map pairD)]
def statD (t : Stat) : D := .agg [.int .i64 t.id, .str t.addr, .int .i64 t.prio, .str t.zone, .int .i64 t.w, .sl t.f (t.mt.map pairD), .bool t.up, .int .i64 t.run, .int .i64 t.forced, .int .i64 t.wait, .int .i64 t.errors, .int .i64 t.bok, .int .i64 t.ball, .bool t.out, .int .i64 t.frm, .int .i64 t.till, .int .i64 t.times, .bool t.drains, .int .i64 t.gone, .int .i64 t.since, .int .i64 t.active]
def dStat : D → Stat
  | .agg [.int _ v0, .str v1, .int _ v2, .str v3, .int _ v4, .sl w5 v5, .bool v6, .int _ v7, .int _ v8, .int _ v9, .int _ v10, .int _ v11, .int _ v12, .bool v13, .int _ v14, .int _ v15, .int _ v16, .bool v17, .int _ v18, .int _ v19, .int _ v20] => ⟨v0, v1, v2, v3, v4, w5, (v5.map dPair), v6, v7, v8, v9, v10, v11, v12, v13, v14, v15, v16, v17, v18, v19, v20⟩
  | _ => ⟨0, .empty, 0, .empty, 0, false, [], false, 0, 0, 0, 0, 0, 0, false, 0, 0, 0, false, 0, 0, 0⟩
theorem dStat_statD (t : Stat) : dStat (statD t) = t := by
  unfold statD dStat
  simp only [map_dPair]
def Stat.small (t : Stat) : Prop := t.addr.size ≤ 140737488355328 ∧ t.zone.size ≤ 140737488355328 ∧ t.mt.length ≤ 4398046511104 ∧ ∀ p ∈ t.mt, p.1.size ≤ 140737488355328 ∧ p.2.size ≤ 140737488355328
theorem okl_pairsE {ys : List D} (h1 : ∀ y ∈ ys, y.isAgg = true) (h2 : ∀ y ∈ ys, OkL reachBytes [.str, .str] y.cells) : ∃ l : List (ByteArray × ByteArray), ys = l.map pairD ∧ ∀ p ∈ l, p.1.size ≤ 140737488355328 ∧ p.2.size ≤ 140737488355328 := by
  refine list_of' fun y hy => ?_
  have ha := h1 y hy
  have hb := h2 y hy
  cases y with
  | agg ds =>
    cases hb with | str g0 t0 =>
    cases t0 with | str g1 t1 =>
    cases t1
    exact ⟨(_, _), rfl, Nat.le_trans g0 (by decide), Nat.le_trans g1 (by decide)⟩
  | _ => cases ha
theorem statL_of {x : List D} (o : OkL reachBytes [.int .i64, .str, .int .i64, .str, .int .i64, .sl true [.str, .str], .bool, .int .i64, .int .i64, .int .i64, .int .i64, .int .i64, .int .i64, .bool, .int .i64, .int .i64, .int .i64, .bool, .int .i64, .int .i64, .int .i64] x) : ∃ t : Stat, x = (statD t).cells ∧ t.small ∧ rI t.gone ∧ rI t.active := by
  cases o with | int h0 t0 =>
  cases t0 with | str h1 t1 =>
  cases t1 with | int h2 t2 =>
  cases t2 with | str h3 t3 =>
  cases t3 with | int h4 t4 =>
  cases t4 with | sl hl5 hz5 hg5 hk5 t5 =>
  cases t5 with | bool t6 =>
  cases t6 with | int h7 t7 =>
  cases t7 with | int h8 t8 =>
  cases t8 with | int h9 t9 =>
  cases t9 with | int h10 t10 =>
  cases t10 with | int h11 t11 =>
  cases t11 with | int h12 t12 =>
  cases t12 with | bool t13 =>
  cases t13 with | int h14 t14 =>
  cases t14 with | int h15 t15 =>
  cases t15 with | int h16 t16 =>
  cases t16 with | bool t17 =>
  cases t17 with | int h18 t18 =>
  cases t18 with | int h19 t19 =>
  cases t19 with | int h20 t20 =>
  cases t20
  obtain ⟨lm, rfl, hp⟩ := okl_pairsE hg5 hk5
  refine ⟨⟨_, _, _, _, _, _, lm, _, _, _, _, _, _, _, _, _, _, _, _, _, _, _⟩, rfl, ⟨Nat.le_trans h1 (by decide), Nat.le_trans h3 (by decide), ?_, hp⟩, wf_i64 h18, wf_i64 h20⟩
  have b32 : lksB [LK.str, LK.str] = 32 := rfl
  rw [b32, List.length_map, lim_val] at hl5
  simp only
  omega
def codsJ : TypeId → Option Codec
  | 83 => some ⟨ByteArray × ByteArray, pairD⟩
  | _ => none
def jCfg (l : List Ctr) (h : List (Nat × Hn)) : WCfg := { spec := specOf l, cod := codsJ, H := hints h }
/-- The weight of what is gone through, as an int of 64 bits bears it. -/
def lsum : List (ByteArray × ByteArray) → Int → Int
  | [], n => n
  | p :: r, n => lsum r (wr .i64 (n + (1 + p.1.size + p.2.size)))
def lightM (t : Stat) : Int := if 600 < lsum t.mt (t.addr.size + t.zone.size) then 1 else 0
def litL (f : Bool) : WLoop :=
  { St := List (ByteArray × ByteArray) × List (ByteArray × ByteArray) × Int
    O := Int
    T := fun s => [(3, .int .i64 s.2.2), (14, .sl f ((s.1 ++ s.2.1).map pairD)), (15, .int .i64 ((s.1 ++ s.2.1).map pairD).length), (16, .int .i64 s.1.length)]
    ok := fun s => (s.1 ++ s.2.1).length ≤ 4398046511104 ∧ ∀ p ∈ s.2.1, p.1.size ≤ 140737488355328 ∧ p.2.size ≤ 140737488355328
    μ := fun s => s.2.1.length
    m := fun s => lsum s.2.1 s.2.2
    outs := [{ α := Int, is := fun o a => o = a, ex := .exit 0, T := fun a => [(3, .int .i64 a)] }] }
theorem litR (f : Bool) (s : (litL f).St) (hs : (litL f).ok s) : Tri Try.prog 0 33 (lp Try.f23 3) (tb ((litL f).T s)) ((litL f).S s) ((litL f).q 0 s) := by
  obtain ⟨a, r, n⟩ := s
  obtain ⟨h1, h2⟩ := hs
  simp only at h1 h2
  cases r with
  | nil =>
    refine round0 (C := jCfg [] [(17, .f)]) (ctrs_ok ([]) rfl rfl) (by kernel_rfl) (by kernel_rfl) (q := decide ((↑a.length : Int) < (↑(List.map pairD (a ++ [])).length : Int)) = false ∧ ∃ (a : Int), n = a ∧ D.int IntKind.i64 a = D.int IntKind.i64 n) (by kernel_rfl) ?_
    exact ⟨by simp, _, rfl, by trivial⟩
  | cons p r =>
    refine round0 (C := jCfg [] [(17, .t), (29, .w)]) (ctrs_ok ([]) rfl rfl) (by kernel_rfl) (by kernel_rfl) (q := decide ((↑a.length : Int) < (↑(List.map pairD (a ++ p :: r)).length : Int)) = true ∧ ∃ (y : ByteArray × ByteArray), (0 : Int) ≤ (↑a.length : Int) ∧ (List.map pairD (a ++ p :: r))[(↑a.length : Int).toNat]? = some (D.agg [D.str y.fst, D.str y.snd]) ∧ inK IntKind.i64 ((1 : Int) + (↑y.fst.size : Int)) ∧ inK IntKind.i64 ((1 : Int) + (↑y.fst.size : Int) + (↑y.snd.size : Int)) ∧ inK IntKind.i64 ((↑a.length : Int) + (1 : Int)) ∧ ∃ (s' : List (ByteArray × ByteArray) × List (ByteArray × ByteArray) × Int), ((s'.fst ++ s'.snd.fst).length ≤ (4398046511104 : Nat) ∧ ∀ (p : ByteArray × ByteArray), List.Mem p s'.snd.fst → p.fst.size ≤ (140737488355328 : Nat) ∧ p.snd.size ≤ (140737488355328 : Nat)) ∧ s'.snd.fst.length.succ ≤ (p :: r).length ∧ lsum s'.snd.fst s'.snd.snd = lsum (p :: r) n ∧ D.int IntKind.i64 s'.snd.snd = D.int IntKind.i64 (wr IntKind.i64 (n + ((1 : Int) + (↑y.fst.size : Int) + (↑y.snd.size : Int)))) ∧ D.sl f (List.map pairD (s'.fst ++ s'.snd.fst)) = D.sl f (List.map pairD (a ++ p :: r)) ∧ D.int IntKind.i64 (↑(List.map pairD (s'.fst ++ s'.snd.fst)).length : Int) = D.int IntKind.i64 (↑(List.map pairD (a ++ p :: r)).length : Int) ∧ D.int IntKind.i64 (↑s'.fst.length : Int) = D.int IntKind.i64 ((↑a.length : Int) + (1 : Int))) (by kernel_rfl) ?_
    have hl : a.length + (r.length + 1) ≤ 4398046511104 := by simpa using h1
    obtain ⟨g1, g2⟩ := h2 p (List.mem_cons_self ..)
    simp only [inK]
    refine ⟨by simp; omega, p, by omega, get_midI pairD a p r, by omega, by omega, by omega, (a ++ [p], r, wr .i64 (n + (1 + p.1.size + p.2.size))), ⟨by simpa using h1, fun x hx => h2 x (List.mem_cons_of_mem _ hx)⟩, Nat.le_refl _, rfl, ?_⟩
    simp
noncomputable def litCfg (f : Bool) : WCfg := { jCfg [] [] with loops := fun k => match k with | 3 => some ((litL f).row []) | _ => none }
theorem litN {t : Stat} (h : t.small) : inK IntKind.i64 ((↑t.addr.size : Int) + (↑t.zone.size : Int)) ∧ ∃ (b : List (ByteArray × ByteArray) × List (ByteArray × ByteArray) × Int), ((b.fst ++ b.snd.fst).length ≤ (4398046511104 : Nat) ∧ ∀ (p : ByteArray × ByteArray), List.Mem p b.snd.fst → p.fst.size ≤ (140737488355328 : Nat) ∧ p.snd.size ≤ (140737488355328 : Nat)) ∧ (D.int IntKind.i64 b.snd.snd = D.int IntKind.i64 ((↑t.addr.size : Int) + (↑t.zone.size : Int)) ∧ D.sl t.f (List.map pairD (b.fst ++ b.snd.fst)) = D.sl t.f (List.map pairD t.mt) ∧ D.int IntKind.i64 (↑(List.map pairD (b.fst ++ b.snd.fst)).length : Int) = D.int IntKind.i64 (↑(List.map pairD t.mt).length : Int) ∧ D.int IntKind.i64 (↑b.fst.length : Int) = D.int IntKind.i64 (0 : Int)) ∧ ∀ (a : Int), lsum b.snd.fst b.snd.snd = a → (decide ((600 : Int) < a) = true → D.int IntKind.i64 (1 : Int) = D.int IntKind.i64 (lightM t)) ∧ (decide ((600 : Int) < a) = false → D.int IntKind.i64 (0 : Int) = D.int IntKind.i64 (lightM t)) := by
  obtain ⟨h1, h2, h3, h4⟩ := h
  simp only [inK]
  refine ⟨by omega, ([], t.mt, (t.addr.size : Int) + t.zone.size), ⟨by simpa using h3, h4⟩, by simp, fun a ha => ⟨fun h => ?_, fun h => ?_⟩⟩
  · have h : 600 < a := of_decide_eq_true h
    unfold lightM
    rw [show lsum t.mt ((t.addr.size : Int) + t.zone.size) = a from ha, if_pos h]
  · have h : ¬ 600 < a := of_decide_eq_false h
    unfold lightM
    rw [show lsum t.mt ((t.addr.size : Int) + t.zone.size) = a from ha, if_neg h]
theorem lit_fits (f : Bool) : ∀ x ∈ [lp Try.f23 3], LoopFits Try.prog (litCfg f) 33 x := by
  intro x hx
  rw [List.mem_singleton.1 hx]
  exact (litL f).fits 3 [] (by kernel_rfl) rfl (litR f)
/-- A host's weight: at a state that bears it. -/
def lightC (t : Stat) (ht : t.small) : Ctr := ⟨23, fun vs => match vs with | [a] => some ⟨a = t.host, .int .i64 (lightM t)⟩ | _ => none, by
  intro vs o ho hp
  split at ho
  · injection ho with ho; subst ho
    simp only at hp
    subst hp
    exact dataFunL (C := litCfg t.f) (ctrs_ok [] rfl rfl) rfl Try.func23 (by kernel_rfl) (l := [lp Try.f23 3]) (by kernel_rfl) (lit_fits t.f) (by kernel_rfl) (by kernel_rfl) (by kernel_rfl) (litN ht)
  · cases ho⟩
def timeJ (n : Int) : Int := min (max n 0) 4611686018427387904
def timeS : List D → Option DOut := fun vs => match vs with | [.int .i64 n] => some ⟨True, .int .i64 (timeJ n)⟩ | _ => none
theorem timeN (n : Int) : D.int IntKind.i64 (min (max n (0 : Int)) (4611686018427387904 : Int)) = D.int IntKind.i64 (timeJ n) := by
  first | rfl | (simp only [timeJ, D.int.injEq, true_and]; omega)
def timeC : Ctr := ⟨64, timeS, by
  intro vs o ho hp
  unfold timeS at ho
  split at ho
  · rename_i n; injection ho with ho; subst ho
    exact dataFun0 (C := jCfg [] []) (ctrs_ok [] rfl rfl) rfl Try.func64 (by kernel_rfl) (by kernel_rfl) (by kernel_rfl) (by kernel_rfl) (by kernel_rfl) (timeN n)
  · cases ho⟩
/-- What the functions of package drain ask of a state. -/
def leftM (d : Bool) (g now : Int) : Int := if d = true then max (timeJ g - timeJ now) 0 else 0
def overM (d : Bool) (g act now : Int) : Bool := d && (decide (act ≤ 0) || decide (timeJ g ≤ timeJ now))
def leftS (vs : List D) : Option DOut := match vs with | [.agg [a0, a1, a2, a3, a4, a5, a6, a7, a8, a9, a10, a11, a12, a13, a14, a15, a16, .bool d, .int .i64 g, a19, .int .i64 act], .int .i64 now] => some ⟨∃ t : Stat, .agg [a0, a1, a2, a3, a4, a5, a6, a7, a8, a9, a10, a11, a12, a13, a14, a15, a16, .bool d, .int .i64 g, a19, .int .i64 act] = statD t, .int .i64 (leftM d g now)⟩ | _ => none
def overS' (vs : List D) : Option DOut := match vs with | [.agg [a0, a1, a2, a3, a4, a5, a6, a7, a8, a9, a10, a11, a12, a13, a14, a15, a16, .bool d, .int .i64 g, a19, .int .i64 act], .int .i64 now] => some ⟨∃ t : Stat, .agg [a0, a1, a2, a3, a4, a5, a6, a7, a8, a9, a10, a11, a12, a13, a14, a15, a16, .bool d, .int .i64 g, a19, .int .i64 act] = statD t, .bool (overM d g act now)⟩ | _ => none
theorem leftN (t : Stat) (now : Int) : ((!t.drains) = true → D.int IntKind.i64 (0 : Int) = D.int IntKind.i64 (leftM t.drains t.gone now)) ∧ ((!t.drains) = false → True ∧ True ∧ inK IntKind.i64 (timeJ t.gone - timeJ now) ∧ D.int IntKind.i64 (max (timeJ t.gone - timeJ now) (0 : Int)) = D.int IntKind.i64 (leftM t.drains t.gone now)) := by
  unfold leftM
  cases t.drains
  · exact ⟨fun _ => by simp, fun h => by cases h⟩
  · refine ⟨(fun h => by cases h), fun _ => ⟨trivial, trivial, ?_, by simp⟩⟩
    simp only [inK]
    unfold timeJ
    omega
theorem overN (t : Stat) (now : Int) : (t.drains = true → (decide (t.active ≤ (0 : Int)) = true → D.bool true = D.bool (overM t.drains t.gone t.active now)) ∧ (decide (t.active ≤ (0 : Int)) = false → True ∧ True ∧ D.bool (decide (timeJ t.gone ≤ timeJ now)) = D.bool (overM t.drains t.gone t.active now))) ∧ (t.drains = false → D.bool false = D.bool (overM t.drains t.gone t.active now)) := by
  unfold overM
  refine ⟨fun h => ⟨fun h1 => by rw [h, h1]; rfl, fun h1 => ⟨trivial, trivial, by rw [h, h1]; simp⟩⟩, fun h => by rw [h]; rfl⟩
theorem statD_eq {t u : Stat} (h : statD t = statD u) : t = u := by
  have := congrArg dStat h
  rw [dStat_statD, dStat_statD] at this
  exact this
def leftC : Ctr := ⟨26, leftS, by
  intro vs o ho hp
  unfold leftS at ho
  split at ho
  · rename_i d g a19 act now
    injection ho with ho; subst ho
    obtain ⟨t, ht⟩ := hp
    simp only at ht ⊢
    rw [ht]
    injection ht with ht
    simp only [List.cons.injEq, D.bool.injEq, D.int.injEq, true_and, and_true] at ht
    have hd := ht.2.2.2.2.2.2.2.2.2.2.2.2.2.2.2.2.2.1
    have hg := ht.2.2.2.2.2.2.2.2.2.2.2.2.2.2.2.2.2.2.1
    rw [hd, hg]
    exact dataFun0 (C := jCfg [timeC] []) (ctrs_ok [timeC] rfl rfl) rfl Try.func26 (by kernel_rfl) (by kernel_rfl) (by kernel_rfl) (by kernel_rfl) (by kernel_rfl) (leftN t now)
  · cases ho⟩
def overC : Ctr := ⟨28, overS', by
  intro vs o ho hp
  unfold overS' at ho
  split at ho
  · rename_i d g a19 act now
    injection ho with ho; subst ho
    obtain ⟨t, ht⟩ := hp
    simp only at ht ⊢
    rw [ht]
    injection ht with ht
    simp only [List.cons.injEq, D.bool.injEq, D.int.injEq, true_and, and_true] at ht
    have hd := ht.2.2.2.2.2.2.2.2.2.2.2.2.2.2.2.2.2.1
    have hg := ht.2.2.2.2.2.2.2.2.2.2.2.2.2.2.2.2.2.2.1
    have ha := ht.2.2.2.2.2.2.2.2.2.2.2.2.2.2.2.2.2.2.2.2
    rw [hd, hg, ha]
    exact dataFun0 (C := jCfg [timeC] []) (ctrs_ok [timeC] rfl rfl) rfl Try.func28 (by kernel_rfl) (by kernel_rfl) (by kernel_rfl) (by kernel_rfl) (by kernel_rfl) (overN t now)
  · cases ho⟩
noncomputable def dlC (t : Stat) (ht : t.small) : List Ctr := [lightC t ht, leftC, overC, awakeC 24 (by kernel_rfl)]
theorem dlBig {t : Stat} (ht : t.small) (x n m : Int) (h : 0 < lightM t) : D.agg [D.int IntKind.i64 t.id, D.str t.addr, D.int IntKind.i64 t.prio, D.str t.zone, D.int IntKind.i64 t.w, D.sl t.f (List.map pairD t.mt)] = D.agg [D.int IntKind.i64 t.id, D.str t.addr, D.int IntKind.i64 t.prio, D.str t.zone, D.int IntKind.i64 t.w, D.sl t.f (List.map pairD t.mt)] ∧ decide ((0 : Int) < lightM t) = true ∧ True ∧ D.bool true = D.bool true := by
  exact ⟨(by trivial), by simpa using h, (by trivial), (by trivial)⟩
theorem dlNo {t : Stat} (ht : t.small) (x n m : Int) (h : ¬ 0 < lightM t) (hd : t.drains = false) : D.agg [D.int IntKind.i64 t.id, D.str t.addr, D.int IntKind.i64 t.prio, D.str t.zone, D.int IntKind.i64 t.w, D.sl t.f (List.map pairD t.mt)] = D.agg [D.int IntKind.i64 t.id, D.str t.addr, D.int IntKind.i64 t.prio, D.str t.zone, D.int IntKind.i64 t.w, D.sl t.f (List.map pairD t.mt)] ∧ decide ((0 : Int) < lightM t) = false ∧ (0 : Int) ≤ wr IntKind.u64 n ∧ (0 : Int) < (1099511627776 : Int) ∧ inK IntKind.i64 (wr IntKind.u64 n % (1099511627776 : Int)) ∧ ∀ (v : Int), v = wr IntKind.u64 n % (1099511627776 : Int) → (0 : Int) ≤ wr IntKind.u64 m ∧ (0 : Int) < (1099511627776 : Int) ∧ inK IntKind.i64 (wr IntKind.u64 m % (1099511627776 : Int)) ∧ ∀ (v_1 : Int), v_1 = wr IntKind.u64 m % (1099511627776 : Int) → (decide (v_1 < v) = true → (!t.drains) = true ∧ (∃ (t_1 : Stat), D.agg [D.int IntKind.i64 t.id, D.str t.addr, D.int IntKind.i64 t.prio, D.str t.zone, D.int IntKind.i64 t.w, D.sl t.f (List.map pairD t.mt), D.bool t.up, D.int IntKind.i64 t.run, D.int IntKind.i64 t.forced, D.int IntKind.i64 t.wait, D.int IntKind.i64 t.errors, D.int IntKind.i64 t.bok, D.int IntKind.i64 t.ball, D.bool t.out, D.int IntKind.i64 t.frm, D.int IntKind.i64 t.till, D.int IntKind.i64 t.times, D.bool t.drains, D.int IntKind.i64 t.gone, D.int IntKind.i64 t.since, D.int IntKind.i64 t.active] = D.agg [D.int IntKind.i64 t_1.id, D.str t_1.addr, D.int IntKind.i64 t_1.prio, D.str t_1.zone, D.int IntKind.i64 t_1.w, D.sl t_1.f (List.map pairD t_1.mt), D.bool t_1.up, D.int IntKind.i64 t_1.run, D.int IntKind.i64 t_1.forced, D.int IntKind.i64 t_1.wait, D.int IntKind.i64 t_1.errors, D.int IntKind.i64 t_1.bok, D.int IntKind.i64 t_1.ball, D.bool t_1.out, D.int IntKind.i64 t_1.frm, D.int IntKind.i64 t_1.till, D.int IntKind.i64 t_1.times, D.bool t_1.drains, D.int IntKind.i64 t_1.gone, D.int IntKind.i64 t_1.since, D.int IntKind.i64 t_1.active]) ∧ decide (leftM t.drains t.gone x = (0 : Int)) = true ∧ (∃ (t_1 : Stat), D.agg [D.int IntKind.i64 t.id, D.str t.addr, D.int IntKind.i64 t.prio, D.str t.zone, D.int IntKind.i64 t.w, D.sl t.f (List.map pairD t.mt), D.bool t.up, D.int IntKind.i64 t.run, D.int IntKind.i64 t.forced, D.int IntKind.i64 t.wait, D.int IntKind.i64 t.errors, D.int IntKind.i64 t.bok, D.int IntKind.i64 t.ball, D.bool t.out, D.int IntKind.i64 t.frm, D.int IntKind.i64 t.till, D.int IntKind.i64 t.times, D.bool t.drains, D.int IntKind.i64 t.gone, D.int IntKind.i64 t.since, D.int IntKind.i64 t.active] = D.agg [D.int IntKind.i64 t_1.id, D.str t_1.addr, D.int IntKind.i64 t_1.prio, D.str t_1.zone, D.int IntKind.i64 t_1.w, D.sl t_1.f (List.map pairD t_1.mt), D.bool t_1.up, D.int IntKind.i64 t_1.run, D.int IntKind.i64 t_1.forced, D.int IntKind.i64 t_1.wait, D.int IntKind.i64 t_1.errors, D.int IntKind.i64 t_1.bok, D.int IntKind.i64 t_1.ball, D.bool t_1.out, D.int IntKind.i64 t_1.frm, D.int IntKind.i64 t_1.till, D.int IntKind.i64 t_1.times, D.bool t_1.drains, D.int IntKind.i64 t_1.gone, D.int IntKind.i64 t_1.since, D.int IntKind.i64 t_1.active]) ∧ (!overM t.drains t.gone t.active x) = true ∧ True ∧ D.bool true = D.bool true) ∧ (decide (v_1 < v) = false → (!t.drains) = true ∧ (∃ (t_1 : Stat), D.agg [D.int IntKind.i64 t.id, D.str t.addr, D.int IntKind.i64 t.prio, D.str t.zone, D.int IntKind.i64 t.w, D.sl t.f (List.map pairD t.mt), D.bool t.up, D.int IntKind.i64 t.run, D.int IntKind.i64 t.forced, D.int IntKind.i64 t.wait, D.int IntKind.i64 t.errors, D.int IntKind.i64 t.bok, D.int IntKind.i64 t.ball, D.bool t.out, D.int IntKind.i64 t.frm, D.int IntKind.i64 t.till, D.int IntKind.i64 t.times, D.bool t.drains, D.int IntKind.i64 t.gone, D.int IntKind.i64 t.since, D.int IntKind.i64 t.active] = D.agg [D.int IntKind.i64 t_1.id, D.str t_1.addr, D.int IntKind.i64 t_1.prio, D.str t_1.zone, D.int IntKind.i64 t_1.w, D.sl t_1.f (List.map pairD t_1.mt), D.bool t_1.up, D.int IntKind.i64 t_1.run, D.int IntKind.i64 t_1.forced, D.int IntKind.i64 t_1.wait, D.int IntKind.i64 t_1.errors, D.int IntKind.i64 t_1.bok, D.int IntKind.i64 t_1.ball, D.bool t_1.out, D.int IntKind.i64 t_1.frm, D.int IntKind.i64 t_1.till, D.int IntKind.i64 t_1.times, D.bool t_1.drains, D.int IntKind.i64 t_1.gone, D.int IntKind.i64 t_1.since, D.int IntKind.i64 t_1.active]) ∧ decide (leftM t.drains t.gone x = (0 : Int)) = true ∧ (∃ (t_1 : Stat), D.agg [D.int IntKind.i64 t.id, D.str t.addr, D.int IntKind.i64 t.prio, D.str t.zone, D.int IntKind.i64 t.w, D.sl t.f (List.map pairD t.mt), D.bool t.up, D.int IntKind.i64 t.run, D.int IntKind.i64 t.forced, D.int IntKind.i64 t.wait, D.int IntKind.i64 t.errors, D.int IntKind.i64 t.bok, D.int IntKind.i64 t.ball, D.bool t.out, D.int IntKind.i64 t.frm, D.int IntKind.i64 t.till, D.int IntKind.i64 t.times, D.bool t.drains, D.int IntKind.i64 t.gone, D.int IntKind.i64 t.since, D.int IntKind.i64 t.active] = D.agg [D.int IntKind.i64 t_1.id, D.str t_1.addr, D.int IntKind.i64 t_1.prio, D.str t_1.zone, D.int IntKind.i64 t_1.w, D.sl t_1.f (List.map pairD t_1.mt), D.bool t_1.up, D.int IntKind.i64 t_1.run, D.int IntKind.i64 t_1.forced, D.int IntKind.i64 t_1.wait, D.int IntKind.i64 t_1.errors, D.int IntKind.i64 t_1.bok, D.int IntKind.i64 t_1.ball, D.bool t_1.out, D.int IntKind.i64 t_1.frm, D.int IntKind.i64 t_1.till, D.int IntKind.i64 t_1.times, D.bool t_1.drains, D.int IntKind.i64 t_1.gone, D.int IntKind.i64 t_1.since, D.int IntKind.i64 t_1.active]) ∧ (!overM t.drains t.gone t.active x) = true ∧ True ∧ D.bool true = D.bool true) := by
  have hu : 0 ≤ wr IntKind.u64 n := by simp only [wr]; omega
  have hv : 0 ≤ wr IntKind.u64 m := by simp only [wr]; omega
  have e1 : leftM t.drains t.gone x = 0 := by unfold leftM; rw [hd]; rfl
  have e2 : overM t.drains t.gone t.active x = false := by unfold overM; rw [hd]; rfl
  rw [e1, e2]
  simp only [inK]
  refine ⟨(by trivial), by simpa using h, hu, by omega, by omega, fun v ev => ⟨hv, by omega, by omega, fun u eu => ?_⟩⟩
  exact ⟨fun _ => ⟨by rw [hd]; rfl, ⟨t, rfl⟩, by simp, ⟨t, rfl⟩, by simp, (by trivial)⟩, fun _ => ⟨by rw [hd]; rfl, ⟨t, rfl⟩, by simp, ⟨t, rfl⟩, by simp, (by trivial)⟩⟩
theorem dlYes {t : Stat} (ht : t.small) (x n m : Int) (h : ¬ 0 < lightM t) (hd : t.drains = true) : D.agg [D.int IntKind.i64 t.id, D.str t.addr, D.int IntKind.i64 t.prio, D.str t.zone, D.int IntKind.i64 t.w, D.sl t.f (List.map pairD t.mt)] = D.agg [D.int IntKind.i64 t.id, D.str t.addr, D.int IntKind.i64 t.prio, D.str t.zone, D.int IntKind.i64 t.w, D.sl t.f (List.map pairD t.mt)] ∧ decide ((0 : Int) < lightM t) = false ∧ (0 : Int) ≤ wr IntKind.u64 n ∧ (0 : Int) < (1099511627776 : Int) ∧ inK IntKind.i64 (wr IntKind.u64 n % (1099511627776 : Int)) ∧ ∀ (v : Int), v = wr IntKind.u64 n % (1099511627776 : Int) → (0 : Int) ≤ wr IntKind.u64 m ∧ (0 : Int) < (1099511627776 : Int) ∧ inK IntKind.i64 (wr IntKind.u64 m % (1099511627776 : Int)) ∧ ∀ (v_1 : Int), v_1 = wr IntKind.u64 m % (1099511627776 : Int) → (decide (v_1 < v) = true → (!t.drains) = false ∧ (∃ (t_1 : Stat), D.agg [D.int IntKind.i64 t.id, D.str t.addr, D.int IntKind.i64 t.prio, D.str t.zone, D.int IntKind.i64 t.w, D.sl t.f (List.map pairD t.mt), D.bool t.up, D.int IntKind.i64 t.run, D.int IntKind.i64 t.forced, D.int IntKind.i64 t.wait, D.int IntKind.i64 t.errors, D.int IntKind.i64 t.bok, D.int IntKind.i64 t.ball, D.bool t.out, D.int IntKind.i64 t.frm, D.int IntKind.i64 t.till, D.int IntKind.i64 t.times, D.bool t.drains, D.int IntKind.i64 t.gone, D.int IntKind.i64 t.since, D.int IntKind.i64 t.active] = D.agg [D.int IntKind.i64 t_1.id, D.str t_1.addr, D.int IntKind.i64 t_1.prio, D.str t_1.zone, D.int IntKind.i64 t_1.w, D.sl t_1.f (List.map pairD t_1.mt), D.bool t_1.up, D.int IntKind.i64 t_1.run, D.int IntKind.i64 t_1.forced, D.int IntKind.i64 t_1.wait, D.int IntKind.i64 t_1.errors, D.int IntKind.i64 t_1.bok, D.int IntKind.i64 t_1.ball, D.bool t_1.out, D.int IntKind.i64 t_1.frm, D.int IntKind.i64 t_1.till, D.int IntKind.i64 t_1.times, D.bool t_1.drains, D.int IntKind.i64 t_1.gone, D.int IntKind.i64 t_1.since, D.int IntKind.i64 t_1.active]) ∧ (∃ (t_1 : Stat), D.agg [D.int IntKind.i64 t.id, D.str t.addr, D.int IntKind.i64 t.prio, D.str t.zone, D.int IntKind.i64 t.w, D.sl t.f (List.map pairD t.mt), D.bool t.up, D.int IntKind.i64 t.run, D.int IntKind.i64 t.forced, D.int IntKind.i64 t.wait, D.int IntKind.i64 t.errors, D.int IntKind.i64 t.bok, D.int IntKind.i64 t.ball, D.bool t.out, D.int IntKind.i64 t.frm, D.int IntKind.i64 t.till, D.int IntKind.i64 t.times, D.bool t.drains, D.int IntKind.i64 t.gone, D.int IntKind.i64 t.since, D.int IntKind.i64 t.active] = D.agg [D.int IntKind.i64 t_1.id, D.str t_1.addr, D.int IntKind.i64 t_1.prio, D.str t_1.zone, D.int IntKind.i64 t_1.w, D.sl t_1.f (List.map pairD t_1.mt), D.bool t_1.up, D.int IntKind.i64 t_1.run, D.int IntKind.i64 t_1.forced, D.int IntKind.i64 t_1.wait, D.int IntKind.i64 t_1.errors, D.int IntKind.i64 t_1.bok, D.int IntKind.i64 t_1.ball, D.bool t_1.out, D.int IntKind.i64 t_1.frm, D.int IntKind.i64 t_1.till, D.int IntKind.i64 t_1.times, D.bool t_1.drains, D.int IntKind.i64 t_1.gone, D.int IntKind.i64 t_1.since, D.int IntKind.i64 t_1.active]) ∧ decide (leftM t.drains t.gone v ≤ leftM t.drains t.gone v_1) = true ∧ (∃ (t_1 : Stat), D.agg [D.int IntKind.i64 t.id, D.str t.addr, D.int IntKind.i64 t.prio, D.str t.zone, D.int IntKind.i64 t.w, D.sl t.f (List.map pairD t.mt), D.bool t.up, D.int IntKind.i64 t.run, D.int IntKind.i64 t.forced, D.int IntKind.i64 t.wait, D.int IntKind.i64 t.errors, D.int IntKind.i64 t.bok, D.int IntKind.i64 t.ball, D.bool t.out, D.int IntKind.i64 t.frm, D.int IntKind.i64 t.till, D.int IntKind.i64 t.times, D.bool t.drains, D.int IntKind.i64 t.gone, D.int IntKind.i64 t.since, D.int IntKind.i64 t.active] = D.agg [D.int IntKind.i64 t_1.id, D.str t_1.addr, D.int IntKind.i64 t_1.prio, D.str t_1.zone, D.int IntKind.i64 t_1.w, D.sl t_1.f (List.map pairD t_1.mt), D.bool t_1.up, D.int IntKind.i64 t_1.run, D.int IntKind.i64 t_1.forced, D.int IntKind.i64 t_1.wait, D.int IntKind.i64 t_1.errors, D.int IntKind.i64 t_1.bok, D.int IntKind.i64 t_1.ball, D.bool t_1.out, D.int IntKind.i64 t_1.frm, D.int IntKind.i64 t_1.till, D.int IntKind.i64 t_1.times, D.bool t_1.drains, D.int IntKind.i64 t_1.gone, D.int IntKind.i64 t_1.since, D.int IntKind.i64 t_1.active]) ∧ ((!overM t.drains t.gone t.active v_1) = true → (∃ (t_1 : Stat), D.agg [D.int IntKind.i64 t.id, D.str t.addr, D.int IntKind.i64 t.prio, D.str t.zone, D.int IntKind.i64 t.w, D.sl t.f (List.map pairD t.mt), D.bool t.up, D.int IntKind.i64 t.run, D.int IntKind.i64 t.forced, D.int IntKind.i64 t.wait, D.int IntKind.i64 t.errors, D.int IntKind.i64 t.bok, D.int IntKind.i64 t.ball, D.bool t.out, D.int IntKind.i64 t.frm, D.int IntKind.i64 t.till, D.int IntKind.i64 t.times, D.bool t.drains, D.int IntKind.i64 t.gone, D.int IntKind.i64 t.since, D.int IntKind.i64 t.active] = D.agg [D.int IntKind.i64 t_1.id, D.str t_1.addr, D.int IntKind.i64 t_1.prio, D.str t_1.zone, D.int IntKind.i64 t_1.w, D.sl t_1.f (List.map pairD t_1.mt), D.bool t_1.up, D.int IntKind.i64 t_1.run, D.int IntKind.i64 t_1.forced, D.int IntKind.i64 t_1.wait, D.int IntKind.i64 t_1.errors, D.int IntKind.i64 t_1.bok, D.int IntKind.i64 t_1.ball, D.bool t_1.out, D.int IntKind.i64 t_1.frm, D.int IntKind.i64 t_1.till, D.int IntKind.i64 t_1.times, D.bool t_1.drains, D.int IntKind.i64 t_1.gone, D.int IntKind.i64 t_1.since, D.int IntKind.i64 t_1.active]) ∧ (decide (leftM t.drains t.gone (4611686018427387904 : Int) = (0 : Int)) = true → True ∧ D.bool true = D.bool true) ∧ (decide (leftM t.drains t.gone (4611686018427387904 : Int) = (0 : Int)) = false → D.bool false = D.bool true)) ∧ ((!overM t.drains t.gone t.active v_1) = false → (∃ (t_1 : Stat), D.agg [D.int IntKind.i64 t.id, D.str t.addr, D.int IntKind.i64 t.prio, D.str t.zone, D.int IntKind.i64 t.w, D.sl t.f (List.map pairD t.mt), D.bool t.up, D.int IntKind.i64 t.run, D.int IntKind.i64 t.forced, D.int IntKind.i64 t.wait, D.int IntKind.i64 t.errors, D.int IntKind.i64 t.bok, D.int IntKind.i64 t.ball, D.bool t.out, D.int IntKind.i64 t.frm, D.int IntKind.i64 t.till, D.int IntKind.i64 t.times, D.bool t.drains, D.int IntKind.i64 t.gone, D.int IntKind.i64 t.since, D.int IntKind.i64 t.active] = D.agg [D.int IntKind.i64 t_1.id, D.str t_1.addr, D.int IntKind.i64 t_1.prio, D.str t_1.zone, D.int IntKind.i64 t_1.w, D.sl t_1.f (List.map pairD t_1.mt), D.bool t_1.up, D.int IntKind.i64 t_1.run, D.int IntKind.i64 t_1.forced, D.int IntKind.i64 t_1.wait, D.int IntKind.i64 t_1.errors, D.int IntKind.i64 t_1.bok, D.int IntKind.i64 t_1.ball, D.bool t_1.out, D.int IntKind.i64 t_1.frm, D.int IntKind.i64 t_1.till, D.int IntKind.i64 t_1.times, D.bool t_1.drains, D.int IntKind.i64 t_1.gone, D.int IntKind.i64 t_1.since, D.int IntKind.i64 t_1.active]) ∧ (overM t.drains t.gone t.active v = true → (∃ (t_1 : Stat), D.agg [D.int IntKind.i64 t.id, D.str t.addr, D.int IntKind.i64 t.prio, D.str t.zone, D.int IntKind.i64 t.w, D.sl t.f (List.map pairD t.mt), D.bool t.up, D.int IntKind.i64 t.run, D.int IntKind.i64 t.forced, D.int IntKind.i64 t.wait, D.int IntKind.i64 t.errors, D.int IntKind.i64 t.bok, D.int IntKind.i64 t.ball, D.bool t.out, D.int IntKind.i64 t.frm, D.int IntKind.i64 t.till, D.int IntKind.i64 t.times, D.bool t.drains, D.int IntKind.i64 t.gone, D.int IntKind.i64 t.since, D.int IntKind.i64 t.active] = D.agg [D.int IntKind.i64 t_1.id, D.str t_1.addr, D.int IntKind.i64 t_1.prio, D.str t_1.zone, D.int IntKind.i64 t_1.w, D.sl t_1.f (List.map pairD t_1.mt), D.bool t_1.up, D.int IntKind.i64 t_1.run, D.int IntKind.i64 t_1.forced, D.int IntKind.i64 t_1.wait, D.int IntKind.i64 t_1.errors, D.int IntKind.i64 t_1.bok, D.int IntKind.i64 t_1.ball, D.bool t_1.out, D.int IntKind.i64 t_1.frm, D.int IntKind.i64 t_1.till, D.int IntKind.i64 t_1.times, D.bool t_1.drains, D.int IntKind.i64 t_1.gone, D.int IntKind.i64 t_1.since, D.int IntKind.i64 t_1.active]) ∧ (decide (leftM t.drains t.gone (4611686018427387904 : Int) = (0 : Int)) = true → True ∧ D.bool true = D.bool true) ∧ (decide (leftM t.drains t.gone (4611686018427387904 : Int) = (0 : Int)) = false → D.bool false = D.bool true)) ∧ (overM t.drains t.gone t.active v = false → D.bool false = D.bool true))) ∧ (decide (v_1 < v) = false → (!t.drains) = false ∧ (∃ (t_1 : Stat), D.agg [D.int IntKind.i64 t.id, D.str t.addr, D.int IntKind.i64 t.prio, D.str t.zone, D.int IntKind.i64 t.w, D.sl t.f (List.map pairD t.mt), D.bool t.up, D.int IntKind.i64 t.run, D.int IntKind.i64 t.forced, D.int IntKind.i64 t.wait, D.int IntKind.i64 t.errors, D.int IntKind.i64 t.bok, D.int IntKind.i64 t.ball, D.bool t.out, D.int IntKind.i64 t.frm, D.int IntKind.i64 t.till, D.int IntKind.i64 t.times, D.bool t.drains, D.int IntKind.i64 t.gone, D.int IntKind.i64 t.since, D.int IntKind.i64 t.active] = D.agg [D.int IntKind.i64 t_1.id, D.str t_1.addr, D.int IntKind.i64 t_1.prio, D.str t_1.zone, D.int IntKind.i64 t_1.w, D.sl t_1.f (List.map pairD t_1.mt), D.bool t_1.up, D.int IntKind.i64 t_1.run, D.int IntKind.i64 t_1.forced, D.int IntKind.i64 t_1.wait, D.int IntKind.i64 t_1.errors, D.int IntKind.i64 t_1.bok, D.int IntKind.i64 t_1.ball, D.bool t_1.out, D.int IntKind.i64 t_1.frm, D.int IntKind.i64 t_1.till, D.int IntKind.i64 t_1.times, D.bool t_1.drains, D.int IntKind.i64 t_1.gone, D.int IntKind.i64 t_1.since, D.int IntKind.i64 t_1.active]) ∧ (∃ (t_1 : Stat), D.agg [D.int IntKind.i64 t.id, D.str t.addr, D.int IntKind.i64 t.prio, D.str t.zone, D.int IntKind.i64 t.w, D.sl t.f (List.map pairD t.mt), D.bool t.up, D.int IntKind.i64 t.run, D.int IntKind.i64 t.forced, D.int IntKind.i64 t.wait, D.int IntKind.i64 t.errors, D.int IntKind.i64 t.bok, D.int IntKind.i64 t.ball, D.bool t.out, D.int IntKind.i64 t.frm, D.int IntKind.i64 t.till, D.int IntKind.i64 t.times, D.bool t.drains, D.int IntKind.i64 t.gone, D.int IntKind.i64 t.since, D.int IntKind.i64 t.active] = D.agg [D.int IntKind.i64 t_1.id, D.str t_1.addr, D.int IntKind.i64 t_1.prio, D.str t_1.zone, D.int IntKind.i64 t_1.w, D.sl t_1.f (List.map pairD t_1.mt), D.bool t_1.up, D.int IntKind.i64 t_1.run, D.int IntKind.i64 t_1.forced, D.int IntKind.i64 t_1.wait, D.int IntKind.i64 t_1.errors, D.int IntKind.i64 t_1.bok, D.int IntKind.i64 t_1.ball, D.bool t_1.out, D.int IntKind.i64 t_1.frm, D.int IntKind.i64 t_1.till, D.int IntKind.i64 t_1.times, D.bool t_1.drains, D.int IntKind.i64 t_1.gone, D.int IntKind.i64 t_1.since, D.int IntKind.i64 t_1.active]) ∧ decide (leftM t.drains t.gone v_1 ≤ leftM t.drains t.gone v) = true ∧ (∃ (t_1 : Stat), D.agg [D.int IntKind.i64 t.id, D.str t.addr, D.int IntKind.i64 t.prio, D.str t.zone, D.int IntKind.i64 t.w, D.sl t.f (List.map pairD t.mt), D.bool t.up, D.int IntKind.i64 t.run, D.int IntKind.i64 t.forced, D.int IntKind.i64 t.wait, D.int IntKind.i64 t.errors, D.int IntKind.i64 t.bok, D.int IntKind.i64 t.ball, D.bool t.out, D.int IntKind.i64 t.frm, D.int IntKind.i64 t.till, D.int IntKind.i64 t.times, D.bool t.drains, D.int IntKind.i64 t.gone, D.int IntKind.i64 t.since, D.int IntKind.i64 t.active] = D.agg [D.int IntKind.i64 t_1.id, D.str t_1.addr, D.int IntKind.i64 t_1.prio, D.str t_1.zone, D.int IntKind.i64 t_1.w, D.sl t_1.f (List.map pairD t_1.mt), D.bool t_1.up, D.int IntKind.i64 t_1.run, D.int IntKind.i64 t_1.forced, D.int IntKind.i64 t_1.wait, D.int IntKind.i64 t_1.errors, D.int IntKind.i64 t_1.bok, D.int IntKind.i64 t_1.ball, D.bool t_1.out, D.int IntKind.i64 t_1.frm, D.int IntKind.i64 t_1.till, D.int IntKind.i64 t_1.times, D.bool t_1.drains, D.int IntKind.i64 t_1.gone, D.int IntKind.i64 t_1.since, D.int IntKind.i64 t_1.active]) ∧ ((!overM t.drains t.gone t.active v) = true → (∃ (t_1 : Stat), D.agg [D.int IntKind.i64 t.id, D.str t.addr, D.int IntKind.i64 t.prio, D.str t.zone, D.int IntKind.i64 t.w, D.sl t.f (List.map pairD t.mt), D.bool t.up, D.int IntKind.i64 t.run, D.int IntKind.i64 t.forced, D.int IntKind.i64 t.wait, D.int IntKind.i64 t.errors, D.int IntKind.i64 t.bok, D.int IntKind.i64 t.ball, D.bool t.out, D.int IntKind.i64 t.frm, D.int IntKind.i64 t.till, D.int IntKind.i64 t.times, D.bool t.drains, D.int IntKind.i64 t.gone, D.int IntKind.i64 t.since, D.int IntKind.i64 t.active] = D.agg [D.int IntKind.i64 t_1.id, D.str t_1.addr, D.int IntKind.i64 t_1.prio, D.str t_1.zone, D.int IntKind.i64 t_1.w, D.sl t_1.f (List.map pairD t_1.mt), D.bool t_1.up, D.int IntKind.i64 t_1.run, D.int IntKind.i64 t_1.forced, D.int IntKind.i64 t_1.wait, D.int IntKind.i64 t_1.errors, D.int IntKind.i64 t_1.bok, D.int IntKind.i64 t_1.ball, D.bool t_1.out, D.int IntKind.i64 t_1.frm, D.int IntKind.i64 t_1.till, D.int IntKind.i64 t_1.times, D.bool t_1.drains, D.int IntKind.i64 t_1.gone, D.int IntKind.i64 t_1.since, D.int IntKind.i64 t_1.active]) ∧ (decide (leftM t.drains t.gone (4611686018427387904 : Int) = (0 : Int)) = true → True ∧ D.bool true = D.bool true) ∧ (decide (leftM t.drains t.gone (4611686018427387904 : Int) = (0 : Int)) = false → D.bool false = D.bool true)) ∧ ((!overM t.drains t.gone t.active v) = false → (∃ (t_1 : Stat), D.agg [D.int IntKind.i64 t.id, D.str t.addr, D.int IntKind.i64 t.prio, D.str t.zone, D.int IntKind.i64 t.w, D.sl t.f (List.map pairD t.mt), D.bool t.up, D.int IntKind.i64 t.run, D.int IntKind.i64 t.forced, D.int IntKind.i64 t.wait, D.int IntKind.i64 t.errors, D.int IntKind.i64 t.bok, D.int IntKind.i64 t.ball, D.bool t.out, D.int IntKind.i64 t.frm, D.int IntKind.i64 t.till, D.int IntKind.i64 t.times, D.bool t.drains, D.int IntKind.i64 t.gone, D.int IntKind.i64 t.since, D.int IntKind.i64 t.active] = D.agg [D.int IntKind.i64 t_1.id, D.str t_1.addr, D.int IntKind.i64 t_1.prio, D.str t_1.zone, D.int IntKind.i64 t_1.w, D.sl t_1.f (List.map pairD t_1.mt), D.bool t_1.up, D.int IntKind.i64 t_1.run, D.int IntKind.i64 t_1.forced, D.int IntKind.i64 t_1.wait, D.int IntKind.i64 t_1.errors, D.int IntKind.i64 t_1.bok, D.int IntKind.i64 t_1.ball, D.bool t_1.out, D.int IntKind.i64 t_1.frm, D.int IntKind.i64 t_1.till, D.int IntKind.i64 t_1.times, D.bool t_1.drains, D.int IntKind.i64 t_1.gone, D.int IntKind.i64 t_1.since, D.int IntKind.i64 t_1.active]) ∧ (overM t.drains t.gone t.active v_1 = true → (∃ (t_1 : Stat), D.agg [D.int IntKind.i64 t.id, D.str t.addr, D.int IntKind.i64 t.prio, D.str t.zone, D.int IntKind.i64 t.w, D.sl t.f (List.map pairD t.mt), D.bool t.up, D.int IntKind.i64 t.run, D.int IntKind.i64 t.forced, D.int IntKind.i64 t.wait, D.int IntKind.i64 t.errors, D.int IntKind.i64 t.bok, D.int IntKind.i64 t.ball, D.bool t.out, D.int IntKind.i64 t.frm, D.int IntKind.i64 t.till, D.int IntKind.i64 t.times, D.bool t.drains, D.int IntKind.i64 t.gone, D.int IntKind.i64 t.since, D.int IntKind.i64 t.active] = D.agg [D.int IntKind.i64 t_1.id, D.str t_1.addr, D.int IntKind.i64 t_1.prio, D.str t_1.zone, D.int IntKind.i64 t_1.w, D.sl t_1.f (List.map pairD t_1.mt), D.bool t_1.up, D.int IntKind.i64 t_1.run, D.int IntKind.i64 t_1.forced, D.int IntKind.i64 t_1.wait, D.int IntKind.i64 t_1.errors, D.int IntKind.i64 t_1.bok, D.int IntKind.i64 t_1.ball, D.bool t_1.out, D.int IntKind.i64 t_1.frm, D.int IntKind.i64 t_1.till, D.int IntKind.i64 t_1.times, D.bool t_1.drains, D.int IntKind.i64 t_1.gone, D.int IntKind.i64 t_1.since, D.int IntKind.i64 t_1.active]) ∧ (decide (leftM t.drains t.gone (4611686018427387904 : Int) = (0 : Int)) = true → True ∧ D.bool true = D.bool true) ∧ (decide (leftM t.drains t.gone (4611686018427387904 : Int) = (0 : Int)) = false → D.bool false = D.bool true)) ∧ (overM t.drains t.gone t.active v_1 = false → D.bool false = D.bool true))) := by
  have hu : 0 ≤ wr IntKind.u64 n := by simp only [wr]; omega
  have hv : 0 ≤ wr IntKind.u64 m := by simp only [wr]; omega
  have mono : ∀ u v, u ≤ v → leftM t.drains t.gone v ≤ leftM t.drains t.gone u := by
    intro u v huv
    unfold leftM timeJ
    split <;> omega
  have ov : ∀ u v, u ≤ v → overM t.drains t.gone t.active u = true → overM t.drains t.gone t.active v = true := by
    intro u v huv
    unfold overM timeJ
    simp only [Bool.and_eq_true, Bool.or_eq_true, decide_eq_true_eq]
    rintro ⟨h1, h2 | h2⟩
    · exact ⟨h1, .inl h2⟩
    · exact ⟨h1, .inr (by omega)⟩
  have e3 : leftM t.drains t.gone 4611686018427387904 = 0 := by unfold leftM timeJ; split <;> omega
  simp only [inK, e3]
  refine ⟨(by trivial), by simpa using h, hu, by omega, by omega, fun v ev => ⟨hv, by omega, by omega, fun u eu => ?_⟩⟩
  simp only [decide_eq_true_eq, decide_eq_false_iff_not]
  repeat' (first | (intro _) | (apply And.intro))
  all_goals first
    | (rw [hd]; rfl; done)
    | exact ⟨t, rfl⟩
    | exact mono _ _ (by omega)
    | with_reducible rfl
    | exact True.intro
    | (exfalso; omega)
    | (exfalso; simp_all; done)
    | (exfalso; have := ov u v (by omega); simp_all; done)
    | (exfalso; have := ov v u (by omega); simp_all; done)
    | (exact (mono _ _ (by omega)))
    | skip
theorem drainLeft_law {x0 : List D} (o0 : OkL reachBytes [.int .i64, .str, .int .i64, .str, .int .i64, .sl true [.str, .str], .bool, .int .i64, .int .i64, .int .i64, .int .i64, .int .i64, .int .i64, .bool, .int .i64, .int .i64, .int .i64, .bool, .int .i64, .int .i64, .int .i64] x0) {x1 : List D} (o1 : OkL reachBytes [.int .i64] x1) {x2 : List D} (o2 : OkL reachBytes [.int .i64] x2) {x3 : List D} (o3 : OkL reachBytes [.int .i64] x3) : DataFun Try.prog 4 [vOf true x0, vOf false x1, vOf false x2, vOf false x3] (.bool true) := by
  obtain ⟨t, rfl, ht, _⟩ := statL_of o0
  obtain ⟨x, rfl, _⟩ := okl1_int o1
  obtain ⟨n, rfl, _⟩ := okl1_int o2
  obtain ⟨m, rfl, _⟩ := okl1_int o3
  by_cases h : 0 < lightM t
  · exact dataFun0 (C := jCfg (dlC t ht) [(12, .t)]) (ctrs_ok (dlC t ht) rfl rfl) rfl Try.func4 (by kernel_rfl) (by kernel_rfl) (by kernel_rfl) (by kernel_rfl) (by kernel_rfl) (dlBig ht x n m h)
  · cases hd : t.drains with
    | false => exact dataFun0 (C := jCfg (dlC t ht) [(12, .f), (15, .w), (17, .n), (19, .w), (21, .n), (29, .t), (34, .t), (40, .t)]) (ctrs_ok (dlC t ht) rfl rfl) rfl Try.func4 (by kernel_rfl) (by kernel_rfl) (by kernel_rfl) (by kernel_rfl) (by kernel_rfl) (dlNo ht x n m h hd)
    | true => exact dataFun0 (C := jCfg (dlC t ht) [(12, .f), (15, .w), (17, .n), (19, .w), (21, .n), (29, .f), (50, .t)]) (ctrs_ok (dlC t ht) rfl rfl) rfl Try.func4 (by kernel_rfl) (by kernel_rfl) (by kernel_rfl) (by kernel_rfl) (by kernel_rfl) (dlYes ht x n m h hd)
end Go.Proofs.Ytfjgngdomjjpgaa.Dv
