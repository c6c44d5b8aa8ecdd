/- What is known of a host (printed by wip/tools/stat.py). -/
import Derived.Test.YtgibpomhiilehaaA5
import Derived.Test.YtgibpomhiilehaaG2
set_option linter.unusedVariables false
set_option linter.unusedSimpArgs false
namespace Go.Proofs.Ytgibpomhiilehaa.Dv
open Go Go.Proofs

def pairD (p : ByteArray × ByteArray) : D := .agg [.str p.1, .str p.2]
def dPair : D → ByteArray × ByteArray
  | .agg [.str a, .str b] => (a, b)
  | _ => (.empty, .empty)
theorem map_dPair (l : List (ByteArray × ByteArray)) : (l.map pairD).map dPair = l := by rw [List.map_map]; exact (List.map_congr_left fun x _ => rfl).trans (List.map_id l)
structure Stat where
  id : Int
  addr : ByteArray
  prio : Int
  zone : ByteArray
  w : Int
  f : Bool
  mt : List (ByteArray × ByteArray)
  up : Bool
  run : Int
  forced : Int
  wait : Int
  errors : Int
  bok : Int
  ball : Int
  out : Bool
  frm : Int
  till : Int
  times : Int
  drains : Bool
  gone : Int
  since : Int
  active : Int
def Stat.host (t : Stat) : D := .agg [.int .i64 t.id, .str t.addr, .int .i64 t.prio, .str t.zone, .int .i64 t.w, .sl t.f (t.mt.map pairD)]
def statD (t : Stat) : D := .agg [.int .i64 t.id, .str t.addr, .int .i64 t.prio, .str t.zone, .int .i64 t.w, .sl t.f (t.mt.map pairD), .bool t.up, .int .i64 t.run, .int .i64 t.forced, .int .i64 t.wait, .int .i64 t.errors, .int .i64 t.bok, .int .i64 t.ball, .bool t.out, .int .i64 t.frm, .int .i64 t.till, .int .i64 t.times, .bool t.drains, .int .i64 t.gone, .int .i64 t.since, .int .i64 t.active]
def dStat : D → Stat
  | .agg [.int _ v0, .str v1, .int _ v2, .str v3, .int _ v4, .sl w5 v5, .bool v6, .int _ v7, .int _ v8, .int _ v9, .int _ v10, .int _ v11, .int _ v12, .bool v13, .int _ v14, .int _ v15, .int _ v16, .bool v17, .int _ v18, .int _ v19, .int _ v20] => ⟨v0, v1, v2, v3, v4, w5, (v5.map dPair), v6, v7, v8, v9, v10, v11, v12, v13, v14, v15, v16, v17, v18, v19, v20⟩
  | _ => ⟨0, .empty, 0, .empty, 0, false, [], false, 0, 0, 0, 0, 0, 0, false, 0, 0, 0, false, 0, 0, 0⟩
theorem dStat_statD (t : Stat) : dStat (statD t) = t := by
  unfold statD dStat
  simp only [map_dPair]
def Stat.small (t : Stat) : Prop := t.addr.size ≤ 140737488355328 ∧ t.zone.size ≤ 140737488355328 ∧ t.mt.length ≤ 4398046511104 ∧ ∀ p ∈ t.mt, p.1.size ≤ 140737488355328 ∧ p.2.size ≤ 140737488355328
theorem okl_pairsE {ys : List D} (h1 : ∀ y ∈ ys, y.isAgg = true) (h2 : ∀ y ∈ ys, OkL reachBytes [.str, .str] y.cells) : ∃ l : List (ByteArray × ByteArray), ys = l.map pairD ∧ ∀ p ∈ l, p.1.size ≤ 140737488355328 ∧ p.2.size ≤ 140737488355328 := by
  refine list_of' fun y hy => ?_
  have ha := h1 y hy
  have hb := h2 y hy
  cases y with
  | agg ds =>
    cases hb with | str g0 t0 =>
    cases t0 with | str g1 t1 =>
    cases t1
    exact ⟨(_, _), rfl, Nat.le_trans g0 (by decide), Nat.le_trans g1 (by decide)⟩
  | _ => cases ha
theorem statL_of {x : List D} (o : OkL reachBytes [.int .i64, .str, .int .i64, .str, .int .i64, .sl true [.str, .str], .bool, .int .i64, .int .i64, .int .i64, .int .i64, .int .i64, .int .i64, .bool, .int .i64, .int .i64, .int .i64, .bool, .int .i64, .int .i64, .int .i64] x) : ∃ t : Stat, x = (statD t).cells ∧ t.small ∧ rI t.gone ∧ rI t.active := by
  cases o with | int h0 t0 =>
  cases t0 with | str h1 t1 =>
  cases t1 with | int h2 t2 =>
  cases t2 with | str h3 t3 =>
  cases t3 with | int h4 t4 =>
  cases t4 with | sl hl5 hz5 hg5 hk5 t5 =>
  cases t5 with | bool t6 =>
  cases t6 with | int h7 t7 =>
  cases t7 with | int h8 t8 =>
  cases t8 with | int h9 t9 =>
  cases t9 with | int h10 t10 =>
  cases t10 with | int h11 t11 =>
  cases t11 with | int h12 t12 =>
  cases t12 with | bool t13 =>
  cases t13 with | int h14 t14 =>
  cases t14 with | int h15 t15 =>
  cases t15 with | int h16 t16 =>
  cases t16 with | bool t17 =>
  cases t17 with | int h18 t18 =>
  cases t18 with | int h19 t19 =>
  cases t19 with | int h20 t20 =>
  cases t20
  obtain ⟨lm, rfl, hp⟩ := okl_pairsE hg5 hk5
  refine ⟨⟨_, _, _, _, _, _, lm, _, _, _, _, _, _, _, _, _, _, _, _, _, _, _⟩, rfl, ⟨Nat.le_trans h1 (by decide), Nat.le_trans h3 (by decide), ?_, hp⟩, wf_i64 h18, wf_i64 h20⟩
  have b32 : lksB [LK.str, LK.str] = 32 := rfl
  rw [b32, List.length_map, lim_val] at hl5
  simp only
  omega
theorem okl1_stats {x : List D} (h : OkL reachBytes [.sl true [.int .i64, .str, .int .i64, .str, .int .i64, .sl true [.str, .str], .bool, .int .i64, .int .i64, .int .i64, .int .i64, .int .i64, .int .i64, .bool, .int .i64, .int .i64, .int .i64, .bool, .int .i64, .int .i64, .int .i64]] x) : ∃ (f : Bool) (l : List Stat), x = [.sl f (l.map statD)] ∧ (∀ t ∈ l, t.small ∧ rI t.gone ∧ rI t.active) ∧ l.length ≤ 1000000000000 := by
  cases h with | sl hl hz hg hk t =>
  cases t
  rename_i f ys
  obtain ⟨l, rfl, hp⟩ : ∃ l : List Stat, ys = l.map statD ∧ ∀ t ∈ l, t.small ∧ rI t.gone ∧ rI t.active := by
    refine list_of' fun y hy => ?_
    have ha := hg y hy
    have hb := hk y hy
    cases y with
    | agg ds =>
      obtain ⟨t, h1, h2⟩ := statL_of hb
      exact ⟨t, congrArg D.agg h1, h2⟩
    | _ => cases ha
  refine ⟨f, l, rfl, hp, ?_⟩
  have b : lksB [LK.int .i64, LK.str, LK.int .i64, LK.str, LK.int .i64, LK.sl true [LK.str, LK.str], LK.bool, LK.int .i64, LK.int .i64, LK.int .i64, LK.int .i64, LK.int .i64, LK.int .i64, LK.bool, LK.int .i64, LK.int .i64, LK.int .i64, LK.bool, LK.int .i64, LK.int .i64, LK.int .i64] = 179 := rfl
  rw [b, List.length_map, lim_val] at hl
  omega
def codsJ : TypeId → Option Codec
  | 139 => some ⟨ByteArray × ByteArray, pairD⟩
  | 73 => some ⟨Stat, statD⟩
  | 3 => some ⟨Int, iD⟩
  | _ => none
def jCfg (l : List Ctr) (h : List (Nat × Hn)) : WCfg := { spec := specOf l, cod := codsJ, H := hints h }
def mCfg (l : List Ctr) (m : List RCtr) (h : List (Nat × Hn)) : WCfg := { spec := specOf l, bspec := bspecOf m, byref := byrefOf m, ro := roOf m, cod := codsJ, H := hints h }
/-- The weight of what is gone through, as an int of 64 bits bears it. -/
def lsum : List (ByteArray × ByteArray) → Int → Int
  | [], n => n
  | p :: r, n => lsum r (wr .i64 (n + (1 + p.1.size + p.2.size)))
def lightM (t : Stat) : Int := if 600 < lsum t.mt (t.addr.size + t.zone.size) then 1 else 0
def litL (f : Bool) : WLoop :=
  { St := List (ByteArray × ByteArray) × List (ByteArray × ByteArray) × Int
    O := Int
    T := fun s => [(3, .int .i64 s.2.2), (14, .sl f ((s.1 ++ s.2.1).map pairD)), (15, .int .i64 ((s.1 ++ s.2.1).map pairD).length), (16, .int .i64 s.1.length)]
    ok := fun s => (s.1 ++ s.2.1).length ≤ 4398046511104 ∧ ∀ p ∈ s.2.1, p.1.size ≤ 140737488355328 ∧ p.2.size ≤ 140737488355328
    μ := fun s => s.2.1.length
    m := fun s => lsum s.2.1 s.2.2
    outs := [{ α := Int, is := fun o a => o = a, ex := .exit 0, T := fun a => [(3, .int .i64 a)] }] }
theorem litR (f : Bool) (s : (litL f).St) (hs : (litL f).ok s) : Tri Try.prog 0 33 (lp Try.f45 3) (tb ((litL f).T s)) ((litL f).S s) ((litL f).q 0 s) := by
  obtain ⟨a, r, n⟩ := s
  obtain ⟨h1, h2⟩ := hs
  simp only at h1 h2
  cases r with
  | nil =>
    refine round0 (C := jCfg [] [(17, .f)]) (ctrs_ok ([]) rfl rfl) (by kernel_rfl) (by kernel_rfl) (q := decide ((↑a.length : Int) < (↑(List.map pairD (a ++ [])).length : Int)) = false ∧ ∃ (a : Int), n = a ∧ D.int IntKind.i64 a = D.int IntKind.i64 n) (by kernel_rfl) ?_
    exact ⟨by simp, _, rfl, by trivial⟩
  | cons p r =>
    refine round0 (C := jCfg [] [(17, .t), (29, .w)]) (ctrs_ok ([]) rfl rfl) (by kernel_rfl) (by kernel_rfl) (q := decide ((↑a.length : Int) < (↑(List.map pairD (a ++ p :: r)).length : Int)) = true ∧ ∃ (y : ByteArray × ByteArray), (0 : Int) ≤ (↑a.length : Int) ∧ (List.map pairD (a ++ p :: r))[(↑a.length : Int).toNat]? = some (D.agg [D.str y.fst, D.str y.snd]) ∧ inK IntKind.i64 ((1 : Int) + (↑y.fst.size : Int)) ∧ inK IntKind.i64 ((1 : Int) + (↑y.fst.size : Int) + (↑y.snd.size : Int)) ∧ inK IntKind.i64 ((↑a.length : Int) + (1 : Int)) ∧ ∃ (s' : List (ByteArray × ByteArray) × List (ByteArray × ByteArray) × Int), ((s'.fst ++ s'.snd.fst).length ≤ (4398046511104 : Nat) ∧ ∀ (p : ByteArray × ByteArray), List.Mem p s'.snd.fst → p.fst.size ≤ (140737488355328 : Nat) ∧ p.snd.size ≤ (140737488355328 : Nat)) ∧ s'.snd.fst.length.succ ≤ (p :: r).length ∧ lsum s'.snd.fst s'.snd.snd = lsum (p :: r) n ∧ D.int IntKind.i64 s'.snd.snd = D.int IntKind.i64 (wr IntKind.i64 (n + ((1 : Int) + (↑y.fst.size : Int) + (↑y.snd.size : Int)))) ∧ D.sl f (List.map pairD (s'.fst ++ s'.snd.fst)) = D.sl f (List.map pairD (a ++ p :: r)) ∧ D.int IntKind.i64 (↑(List.map pairD (s'.fst ++ s'.snd.fst)).length : Int) = D.int IntKind.i64 (↑(List.map pairD (a ++ p :: r)).length : Int) ∧ D.int IntKind.i64 (↑s'.fst.length : Int) = D.int IntKind.i64 ((↑a.length : Int) + (1 : Int))) (by kernel_rfl) ?_
    have hl : a.length + (r.length + 1) ≤ 4398046511104 := by simpa using h1
    obtain ⟨g1, g2⟩ := h2 p (List.mem_cons_self ..)
    simp only [inK]
    refine ⟨by simp; omega, p, by omega, get_midI pairD a p r, by omega, by omega, by omega, (a ++ [p], r, wr .i64 (n + (1 + p.1.size + p.2.size))), ⟨by simpa using h1, fun x hx => h2 x (List.mem_cons_of_mem _ hx)⟩, Nat.le_refl _, rfl, ?_⟩
    simp
noncomputable def litCfg (f : Bool) : WCfg := { jCfg [] [] with loops := fun k => match k with | 3 => some ((litL f).row []) | _ => none }
theorem litN {t : Stat} (h : t.small) : inK IntKind.i64 ((↑t.addr.size : Int) + (↑t.zone.size : Int)) ∧ ∃ (b : List (ByteArray × ByteArray) × List (ByteArray × ByteArray) × Int), ((b.fst ++ b.snd.fst).length ≤ (4398046511104 : Nat) ∧ ∀ (p : ByteArray × ByteArray), List.Mem p b.snd.fst → p.fst.size ≤ (140737488355328 : Nat) ∧ p.snd.size ≤ (140737488355328 : Nat)) ∧ (D.int IntKind.i64 b.snd.snd = D.int IntKind.i64 ((↑t.addr.size : Int) + (↑t.zone.size : Int)) ∧ D.sl t.f (List.map pairD (b.fst ++ b.snd.fst)) = D.sl t.f (List.map pairD t.mt) ∧ D.int IntKind.i64 (↑(List.map pairD (b.fst ++ b.snd.fst)).length : Int) = D.int IntKind.i64 (↑(List.map pairD t.mt).length : Int) ∧ D.int IntKind.i64 (↑b.fst.length : Int) = D.int IntKind.i64 (0 : Int)) ∧ ∀ (a : Int), lsum b.snd.fst b.snd.snd = a → (decide ((600 : Int) < a) = true → D.int IntKind.i64 (1 : Int) = D.int IntKind.i64 (lightM t)) ∧ (decide ((600 : Int) < a) = false → D.int IntKind.i64 (0 : Int) = D.int IntKind.i64 (lightM t)) := by
  obtain ⟨h1, h2, h3, h4⟩ := h
  simp only [inK]
  refine ⟨by omega, ([], t.mt, (t.addr.size : Int) + t.zone.size), ⟨by simpa using h3, h4⟩, by simp, fun a ha => ⟨fun h => ?_, fun h => ?_⟩⟩
  · have h : 600 < a := of_decide_eq_true h
    unfold lightM
    rw [show lsum t.mt ((t.addr.size : Int) + t.zone.size) = a from ha, if_pos h]
  · have h : ¬ 600 < a := of_decide_eq_false h
    unfold lightM
    rw [show lsum t.mt ((t.addr.size : Int) + t.zone.size) = a from ha, if_neg h]
theorem lit_fits (f : Bool) : ∀ x ∈ [lp Try.f45 3], LoopFits Try.prog (litCfg f) 33 x := by
  intro x hx
  rw [List.mem_singleton.1 hx]
  exact (litL f).fits 3 [] (by kernel_rfl) rfl (litR f)
def lightD (d : D) : Int := match d with | .agg [_, .str a, _, .str z, _, .sl _ xs] => if 600 < lsum (xs.map dPair) (a.size + z.size) then 1 else 0 | _ => 0
theorem lightD_host (t : Stat) : lightD t.host = lightM t := by
  unfold lightD Stat.host lightM
  simp only [map_dPair]
def lightS (vs : List D) : Option DOut := match vs with | [.agg ds] => some ⟨∃ t : Stat, t.small ∧ .agg ds = t.host, .int .i64 (lightD (.agg ds))⟩ | _ => none
def lightQ : Ctr := ⟨45, lightS, by
  intro vs o ho hp
  unfold lightS at ho
  split at ho
  · injection ho with ho; subst ho
    obtain ⟨t, ht, he⟩ := hp
    simp only [he, lightD_host]
    exact dataFunL (C := litCfg t.f) (ctrs_ok [] rfl rfl) rfl Try.func45 (by kernel_rfl) (l := [lp Try.f45 3]) (by kernel_rfl) (lit_fits t.f) (by kernel_rfl) (by kernel_rfl) (by kernel_rfl) (litN ht)
  · cases ho⟩
/-- Can a state be gone through? -/
def lit16 : List Stat → Nat → Int
  | [], _ => 0
  | t :: r, i => if 80 < i ∨ 0 < lightM t then 1 else lit16 r (i + 1)
def l16L (f : Bool) : WLoop :=
  { St := List Stat × List Stat
    O := Int
    T := fun s => [(5, .sl f ((s.1 ++ s.2).map statD)), (6, .int .i64 ((s.1 ++ s.2).map statD).length), (7, .int .i64 s.1.length)]
    ok := fun s => (s.1 ++ s.2).length ≤ 1000000000000 ∧ ∀ t ∈ s.2, t.small
    μ := fun s => s.2.length
    m := fun s => lit16 s.2 s.1.length
    outs := [{ α := Unit, is := fun o _ => o = 0, ex := .exit 0, T := fun _ => [] }, { α := Int, is := fun o a => o = a, ex := .ret, T := fun a => [(2, .int .i64 a)] }] }
theorem l16R (f : Bool) (s : (l16L f).St) (hs : (l16L f).ok s) : Tri Try.prog 0 21 (lp Try.f17 2) (tb ((l16L f).T s)) ((l16L f).S s) ((l16L f).q 0 s) := by
  obtain ⟨a, r⟩ := s
  obtain ⟨h1, h2⟩ := hs
  simp only at h1 h2
  cases r with
  | nil =>
    refine round0 (C := jCfg [lightQ] [(8, .f)]) (ctrs_ok ([lightQ]) rfl rfl) (by kernel_rfl) (by kernel_rfl) (q := decide ((↑a.length : Int) < (↑(List.map statD (a ++ [])).length : Int)) = false ∧ ∃ (a : Unit), Int.ofNat (0 : Nat) = (0 : Int) ∧ True) (by kernel_rfl) ?_
    exact ⟨by simp, (), rfl, by trivial⟩
  | cons t r =>
    refine round0 (C := jCfg [lightQ] [(8, .t)]) (ctrs_ok ([lightQ]) rfl rfl) (by kernel_rfl) (by kernel_rfl) (q := decide ((↑a.length : Int) < (↑(List.map statD (a ++ t :: r)).length : Int)) = true ∧ ∃ (y : Stat), (0 : Int) ≤ (↑a.length : Int) ∧ (List.map statD (a ++ t :: r))[(↑a.length : Int).toNat]? = some (D.agg [D.int IntKind.i64 y.id, D.str y.addr, D.int IntKind.i64 y.prio, D.str y.zone, D.int IntKind.i64 y.w, D.sl y.f (List.map pairD y.mt), D.bool y.up, D.int IntKind.i64 y.run, D.int IntKind.i64 y.forced, D.int IntKind.i64 y.wait, D.int IntKind.i64 y.errors, D.int IntKind.i64 y.bok, D.int IntKind.i64 y.ball, D.bool y.out, D.int IntKind.i64 y.frm, D.int IntKind.i64 y.till, D.int IntKind.i64 y.times, D.bool y.drains, D.int IntKind.i64 y.gone, D.int IntKind.i64 y.since, D.int IntKind.i64 y.active]) ∧ (decide ((80 : Int) < (↑a.length : Int)) = true → ∃ (a_2 : Int), lit16 (t :: r) a.length = a_2 ∧ D.int IntKind.i64 a_2 = D.int IntKind.i64 (1 : Int)) ∧ (decide ((80 : Int) < (↑a.length : Int)) = false → (∃ (t : Stat), t.small ∧ D.agg [D.int IntKind.i64 y.id, D.str y.addr, D.int IntKind.i64 y.prio, D.str y.zone, D.int IntKind.i64 y.w, D.sl y.f (List.map pairD y.mt)] = D.agg [D.int IntKind.i64 t.id, D.str t.addr, D.int IntKind.i64 t.prio, D.str t.zone, D.int IntKind.i64 t.w, D.sl t.f (List.map pairD t.mt)]) ∧ (decide ((0 : Int) < lightD (D.agg [D.int IntKind.i64 y.id, D.str y.addr, D.int IntKind.i64 y.prio, D.str y.zone, D.int IntKind.i64 y.w, D.sl y.f (List.map pairD y.mt)])) = true → ∃ (a_3 : Int), lit16 (t :: r) a.length = a_3 ∧ D.int IntKind.i64 a_3 = D.int IntKind.i64 (1 : Int)) ∧ (decide ((0 : Int) < lightD (D.agg [D.int IntKind.i64 y.id, D.str y.addr, D.int IntKind.i64 y.prio, D.str y.zone, D.int IntKind.i64 y.w, D.sl y.f (List.map pairD y.mt)])) = false → inK IntKind.i64 ((↑a.length : Int) + (1 : Int)) ∧ ∃ (s' : List Stat × List Stat), ((s'.fst ++ s'.snd).length ≤ (1000000000000 : Nat) ∧ ∀ (t : Stat), List.Mem t s'.snd → t.small) ∧ s'.snd.length.succ ≤ (t :: r).length ∧ lit16 s'.snd s'.fst.length = lit16 (t :: r) a.length ∧ D.sl f (List.map statD (s'.fst ++ s'.snd)) = D.sl f (List.map statD (a ++ t :: r)) ∧ D.int IntKind.i64 (↑(List.map statD (s'.fst ++ s'.snd)).length : Int) = D.int IntKind.i64 (↑(List.map statD (a ++ t :: r)).length : Int) ∧ D.int IntKind.i64 (↑s'.fst.length : Int) = D.int IntKind.i64 ((↑a.length : Int) + (1 : Int))))) (by kernel_rfl) ?_
    have hl : a.length + (r.length + 1) ≤ 1000000000000 := by simpa using h1
    have ht := h2 t (List.mem_cons_self ..)
    have e : lit16 (t :: r) a.length = if 80 < a.length ∨ 0 < lightM t then 1 else lit16 r (a.length + 1) := rfl
    have hd : lightD (D.agg [D.int .i64 t.id, D.str t.addr, D.int .i64 t.prio, D.str t.zone, D.int .i64 t.w, D.sl t.f (List.map pairD t.mt)]) = lightM t := lightD_host t
    refine ⟨by simp; omega, t, by omega, get_midI statD a t r, ?_⟩
    rw [hd, e]
    refine ⟨fun h => ⟨_, if_pos (.inl (by have := of_decide_eq_true h; omega)), rfl⟩, fun h => ⟨⟨t, ht, rfl⟩, fun h' => ⟨_, if_pos (.inr (of_decide_eq_true h')), rfl⟩, fun h' => ⟨by simp only [inK]; omega, (a ++ [t], r), ⟨by simpa using h1, fun x hx => h2 x (List.mem_cons_of_mem _ hx)⟩, Nat.le_refl _, ?_, ?_⟩⟩⟩
    · have h := of_decide_eq_false h
      have h' := of_decide_eq_false h'
      rw [if_neg (by rintro (g | g); exact h (by omega); exact h' g)]
      simp
    · simp
noncomputable def l16Cfg (f : Bool) : WCfg := { jCfg [lightQ] [] with loops := fun k => match k with | 2 => some ((l16L f).row []) | _ => none }
theorem l16N (f : Bool) (l : List Stat) (h1 : l.length ≤ 1000000000000) (h2 : ∀ t ∈ l, t.small) : ∃ (b : List Stat × List Stat), ((b.fst ++ b.snd).length ≤ (1000000000000 : Nat) ∧ ∀ (t : Stat), List.Mem t b.snd → t.small) ∧ (D.sl f (List.map statD (b.fst ++ b.snd)) = D.sl f (List.map statD l) ∧ D.int IntKind.i64 (↑(List.map statD (b.fst ++ b.snd)).length : Int) = D.int IntKind.i64 (↑(List.map statD l).length : Int) ∧ D.int IntKind.i64 (↑b.fst.length : Int) = D.int IntKind.i64 (0 : Int)) ∧ (∀ (a : Unit), lit16 b.snd b.fst.length = (0 : Int) → D.int IntKind.i64 (0 : Int) = D.int IntKind.i64 (lit16 l (0 : Nat))) ∧ ∀ (a : Int), lit16 b.snd b.fst.length = a → D.int IntKind.i64 a = D.int IntKind.i64 (lit16 l (0 : Nat)) := by
  refine ⟨([], l), ⟨by simpa using h1, h2⟩, by simp, fun _ h => ?_, fun a h => ?_⟩
  · rw [← show lit16 l (([] : List Stat).length) = lit16 l 0 from rfl, h]
  · rw [← h]; rfl
theorem map_dStat (l : List Stat) : (l.map statD).map dStat = l := by rw [List.map_map]; exact (List.map_congr_left fun x _ => dStat_statD x).trans (List.map_id l)
def l16S (vs : List D) : Option DOut := match vs with | [.sl _ xs] => some ⟨∃ l : List Stat, xs = l.map statD ∧ l.length ≤ 1000000000000 ∧ ∀ t ∈ l, t.small, .int .i64 (lit16 (xs.map dStat) 0)⟩ | _ => none
def l16C : Ctr := ⟨17, l16S, by
  intro vs o ho hp
  unfold l16S at ho
  split at ho
  · rename_i f xs
    injection ho with ho; subst ho
    obtain ⟨l, rfl, h2, h3⟩ := hp
    simp only [map_dStat]
    refine dataFunL (C := l16Cfg f) (ctrs_ok [lightQ] rfl rfl) rfl Try.func17 (by kernel_rfl) (l := [lp Try.f17 2]) (by kernel_rfl) ?_ (by kernel_rfl) (by kernel_rfl) (by kernel_rfl) (l16N f l h2 h3)
    intro x hx
    rw [List.mem_singleton.1 hx]
    exact (l16L f).fits 2 [] (by kernel_rfl) rfl (l16R f)
  · cases ho⟩
/-- A host with memory of its own. -/
def Stat.cp (t : Stat) : Stat := { t with f := t.mt.isEmpty }
theorem hcNil (f : Bool) (a c e : Int) (b d : ByteArray) : True ∧ D.agg [D.int IntKind.i64 a, D.str b, D.int IntKind.i64 c, D.str d, D.int IntKind.i64 e, D.sl true []] = D.agg [D.int IntKind.i64 a, D.str b, D.int IntKind.i64 c, D.str d, D.int IntKind.i64 e, D.sl true []] := ⟨trivial, rfl⟩
theorem hcCons (f : Bool) (a c e : Int) (b d : ByteArray) (x : D) (xs : List D) (h1 : (x :: xs).all D.pure = true) (h2 : (x :: xs).all (okEl 2) = true) (h3 : (x :: xs).length * 32 ≤ 140737488355328) : (((x :: xs).all D.pure = true ∧ (x :: xs).all (okEl (2 : Nat)) = true) ∧ (x :: xs).length * (32 : Nat) ≤ (140737488355328 : Nat)) ∧ (0 : Nat) + (x :: xs).length ≤ (x :: xs).length ∧ (List.take (x :: xs).length (x :: xs)).all D.pure = true ∧ D.agg [D.int IntKind.i64 a, D.str b, D.int IntKind.i64 c, D.str d, D.int IntKind.i64 e, D.sl false (List.take (x :: xs).length (x :: xs))] = D.agg [D.int IntKind.i64 a, D.str b, D.int IntKind.i64 c, D.str d, D.int IntKind.i64 e, D.sl false (x :: xs)] := by
  rw [List.take_length]
  exact ⟨⟨⟨h1, h2⟩, h3⟩, by omega, h1, rfl⟩
def hcS (vs : List D) : Option DOut := match vs with | [.agg [.int .i64 a, .str b, .int .i64 c, .str d, .int .i64 e, .sl f xs]] => some ⟨xs.all D.pure = true ∧ xs.all (okEl 2) = true ∧ xs.length * 32 ≤ 140737488355328, .agg [.int .i64 a, .str b, .int .i64 c, .str d, .int .i64 e, .sl xs.isEmpty xs]⟩ | _ => none
def hostCopyC : Ctr := ⟨116, hcS, by
  intro vs o ho hp
  unfold hcS at ho
  split at ho
  · rename_i a b c d e f xs
    injection ho with ho; subst ho
    obtain ⟨h1, h2, h3⟩ := hp
    cases xs with
    | nil => exact dataFun0 (C := mCfg [] [clonePairC] []) (ctrsR_ok [] [clonePairC] rfl rfl rfl rfl) rfl Try.func116 (by kernel_rfl) (by kernel_rfl) (by kernel_rfl) (by kernel_rfl) (by kernel_rfl) (hcNil f a c e b d)
    | cons x xs => exact dataFun0 (C := mCfg [] [clonePairC] []) (ctrsR_ok [] [clonePairC] rfl rfl rfl rfl) rfl Try.func116 (by kernel_rfl) (by kernel_rfl) (by kernel_rfl) (by kernel_rfl) (by kernel_rfl) (hcCons f a c e b d x xs h1 h2 h3)
  · cases ho⟩
theorem pure_pairD (l : List (ByteArray × ByteArray)) : (l.map pairD).all D.pure = true := by rw [List.all_eq_true]; intro x hx; obtain ⟨n, _, rfl⟩ := List.mem_map.1 hx; rfl
theorem okEl_pairD (l : List (ByteArray × ByteArray)) : (l.map pairD).all (okEl 2) = true := by rw [List.all_eq_true]; intro x hx; obtain ⟨n, _, rfl⟩ := List.mem_map.1 hx; rfl
theorem pure_statD (l : List Stat) : (l.map statD).all D.pure = true := by rw [List.all_eq_true]; intro x hx; obtain ⟨n, _, rfl⟩ := List.mem_map.1 hx; rfl
theorem okEl_statD (l : List Stat) : (l.map statD).all (okEl 21) = true := by rw [List.all_eq_true]; intro x hx; obtain ⟨n, _, rfl⟩ := List.mem_map.1 hx; rfl
theorem statD_eq {t u : Stat} (h : statD t = statD u) : t = u := by
  have := congrArg dStat h
  rw [dStat_statD, dStat_statD] at this
  exact this
end Go.Proofs.Ytgibpomhiilehaa.Dv
