/- Rows that are alike are told to be alike (printed by wip/tools/alike.py). -/
import Derived.Test.YtgibpomhiilehaaN1
set_option linter.unusedVariables false
set_option linter.unusedSimpArgs false
namespace Go.Proofs.Ytgibpomhiilehaa.Dv
open Go Go.Proofs

def txL (f g : Bool) : WLoop :=
  { St := List ByteArray × List ByteArray
    O := Unit
    T := fun s => [(0, .sl f ((s.1 ++ s.2).map strD)), (1, .sl g ((s.1 ++ s.2).map strD)), (12, .int .i64 ((s.1 ++ s.2).map strD).length), (13, .int .i64 s.1.length)]
    ok := fun s => (s.1 ++ s.2).length ≤ 1000
    μ := fun s => s.2.length
    m := fun _ => ()
    outs := [{ α := Unit, is := fun _ _ => True, ex := .exit 0, T := fun _ => [] }] }
theorem txR (f g : Bool) (s : (txL f g).St) (hs : (txL f g).ok s) : Tri Try.prog 0 26 (lp Try.f19 4) (tb ((txL f g).T s)) ((txL f g).S s) ((txL f g).q 0 s) := by
  obtain ⟨a, r⟩ := s
  have h1 : (a ++ r).length ≤ 1000 := hs
  cases r with
  | nil =>
    refine round0 (C := nCfg 0 [] [] [(14, .f)]) (ctrs_ok ([]) rfl rfl) (by kernel_rfl) (by kernel_rfl) (q := decide ((↑a.length : Int) < (↑(List.map strD (a ++ [])).length : Int)) = false ∧ ∃ (a : Unit), True ∧ True) (by kernel_rfl) ?_
    exact ⟨by simp, (), trivial, trivial⟩
  | cons p r =>
    refine round0 (C := nCfg 0 [] [] [(14, .t)]) (ctrs_ok ([]) rfl rfl) (by kernel_rfl) (by kernel_rfl) (q := decide ((↑a.length : Int) < (↑(List.map strD (a ++ p :: r)).length : Int)) = true ∧ ∃ (y : ByteArray), (0 : Int) ≤ (↑a.length : Int) ∧ (List.map strD (a ++ p :: r))[(↑a.length : Int).toNat]? = some (D.str y) ∧ ∃ (y_1 : ByteArray), (0 : Int) ≤ (↑a.length : Int) ∧ (List.map strD (a ++ p :: r))[(↑a.length : Int).toNat]? = some (D.str y_1) ∧ (decide (y ≠ y_1) = true → False) ∧ (decide (y ≠ y_1) = false → inK IntKind.i64 ((↑a.length : Int) + (1 : Int)) ∧ ∃ (s' : List ByteArray × List ByteArray), (s'.fst ++ s'.snd).length ≤ (1000 : Nat) ∧ s'.snd.length.succ ≤ (p :: r).length ∧ () = () ∧ D.sl f (List.map strD (s'.fst ++ s'.snd)) = D.sl f (List.map strD (a ++ p :: r)) ∧ D.sl g (List.map strD (s'.fst ++ s'.snd)) = D.sl g (List.map strD (a ++ p :: r)) ∧ D.int IntKind.i64 (↑(List.map strD (s'.fst ++ s'.snd)).length : Int) = D.int IntKind.i64 (↑(List.map strD (a ++ p :: r)).length : Int) ∧ D.int IntKind.i64 (↑s'.fst.length : Int) = D.int IntKind.i64 ((↑a.length : Int) + (1 : Int)))) (by kernel_rfl) ?_
    have hl : a.length + (r.length + 1) ≤ 1000 := by simpa using h1
    refine ⟨by simp; omega, p, by omega, get_midI strD a p r, p, by omega, get_midI strD a p r, fun h => by simp at h, fun _ => ⟨by simp only [inK]; omega, (a ++ [p], r), by simpa using h1, Nat.le_refl _, rfl, ?_⟩⟩
    simp
noncomputable def txCfg (f g : Bool) : WCfg := { nCfg 0 [] [] [] with loops := fun k => match k with | 4 => some ((txL f g).row []) | _ => none }
theorem txN (f g : Bool) (l : List ByteArray) (h1 : l.length ≤ 1000) : (decide ((↑(List.map strD l).length : Int) ≠ (↑(List.map strD l).length : Int)) = true → D.bool false = D.bool true) ∧ (decide ((↑(List.map strD l).length : Int) ≠ (↑(List.map strD l).length : Int)) = false → ∃ (b : List ByteArray × List ByteArray), (b.fst ++ b.snd).length ≤ (1000 : Nat) ∧ (D.sl f (List.map strD (b.fst ++ b.snd)) = D.sl f (List.map strD l) ∧ D.sl g (List.map strD (b.fst ++ b.snd)) = D.sl g (List.map strD l) ∧ D.int IntKind.i64 (↑(List.map strD (b.fst ++ b.snd)).length : Int) = D.int IntKind.i64 (↑(List.map strD l).length : Int) ∧ D.int IntKind.i64 (↑b.fst.length : Int) = D.int IntKind.i64 (0 : Int)) ∧ ∀ (a : Unit), True → D.bool true = D.bool true) := by
  refine ⟨fun h => by simp at h, fun _ => ⟨([], l), by simpa using h1, ?_, fun _ _ => rfl⟩⟩
  simp
def txS (vs : List D) : Option DOut := match vs with | [.sl f xs, .sl g ys] => some ⟨∃ l : List ByteArray, xs = l.map strD ∧ ys = l.map strD ∧ l.length ≤ 1000 ∧ True, .bool true⟩ | _ => none
def txC : Ctr := ⟨19, txS, by
  intro vs o ho hp
  unfold txS at ho
  split at ho
  · rename_i f xs g ys
    injection ho with ho; subst ho
    obtain ⟨l, rfl, rfl, h1, h2⟩ := hp
    refine dataFunL (C := txCfg f g) (ctrs_ok [] rfl rfl) rfl Try.func19 (by kernel_rfl) (l := [lp Try.f19 4]) (by kernel_rfl) ?_ (by kernel_rfl) (by kernel_rfl) (by kernel_rfl) (txN f g l h1)
    intro x hx
    rw [List.mem_singleton.1 hx]
    exact (txL f g).fits 4 [] (by kernel_rfl) rfl (txR f g)
  · cases ho⟩

def ssL (f g : Bool) : WLoop :=
  { St := List Shr × List Shr
    O := Unit
    T := fun s => [(0, .sl f ((s.1 ++ s.2).map shD)), (1, .sl g ((s.1 ++ s.2).map shD)), (12, .int .i64 ((s.1 ++ s.2).map shD).length), (13, .int .i64 s.1.length)]
    ok := fun s => (s.1 ++ s.2).length ≤ 1000
    μ := fun s => s.2.length
    m := fun _ => ()
    outs := [{ α := Unit, is := fun _ _ => True, ex := .exit 0, T := fun _ => [] }] }
theorem ssR (f g : Bool) (s : (ssL f g).St) (hs : (ssL f g).ok s) : Tri Try.prog 0 26 (lp Try.f22 4) (tb ((ssL f g).T s)) ((ssL f g).S s) ((ssL f g).q 0 s) := by
  obtain ⟨a, r⟩ := s
  have h1 : (a ++ r).length ≤ 1000 := hs
  cases r with
  | nil =>
    refine round0 (C := nCfg 0 [] [] [(14, .f)]) (ctrs_ok ([]) rfl rfl) (by kernel_rfl) (by kernel_rfl) (q := decide ((↑a.length : Int) < (↑(List.map shD (a ++ [])).length : Int)) = false ∧ ∃ (a : Unit), True ∧ True) (by kernel_rfl) ?_
    exact ⟨by simp, (), trivial, trivial⟩
  | cons p r =>
    refine round0 (C := nCfg 0 [] [] [(14, .t)]) (ctrs_ok ([]) rfl rfl) (by kernel_rfl) (by kernel_rfl) (q := decide ((↑a.length : Int) < (↑(List.map shD (a ++ p :: r)).length : Int)) = true ∧ ∃ (y : Int × Int), (0 : Int) ≤ (↑a.length : Int) ∧ (List.map shD (a ++ p :: r))[(↑a.length : Int).toNat]? = some (D.agg [D.int IntKind.i64 y.fst, D.int IntKind.i64 y.snd]) ∧ ∃ (y_1 : Int × Int), (0 : Int) ≤ (↑a.length : Int) ∧ (List.map shD (a ++ p :: r))[(↑a.length : Int).toNat]? = some (D.agg [D.int IntKind.i64 y_1.fst, D.int IntKind.i64 y_1.snd]) ∧ ((![decide (y.fst = y_1.fst), decide (y.snd = y_1.snd)].all id) = true → False) ∧ ((![decide (y.fst = y_1.fst), decide (y.snd = y_1.snd)].all id) = false → inK IntKind.i64 ((↑a.length : Int) + (1 : Int)) ∧ ∃ (s' : List Shr × List Shr), (s'.fst ++ s'.snd).length ≤ (1000 : Nat) ∧ s'.snd.length.succ ≤ (p :: r).length ∧ () = () ∧ D.sl f (List.map shD (s'.fst ++ s'.snd)) = D.sl f (List.map shD (a ++ p :: r)) ∧ D.sl g (List.map shD (s'.fst ++ s'.snd)) = D.sl g (List.map shD (a ++ p :: r)) ∧ D.int IntKind.i64 (↑(List.map shD (s'.fst ++ s'.snd)).length : Int) = D.int IntKind.i64 (↑(List.map shD (a ++ p :: r)).length : Int) ∧ D.int IntKind.i64 (↑s'.fst.length : Int) = D.int IntKind.i64 ((↑a.length : Int) + (1 : Int)))) (by kernel_rfl) ?_
    have hl : a.length + (r.length + 1) ≤ 1000 := by simpa using h1
    refine ⟨by simp; omega, p, by omega, get_midI shD a p r, p, by omega, get_midI shD a p r, fun h => by simp at h, fun _ => ⟨by simp only [inK]; omega, (a ++ [p], r), by simpa using h1, Nat.le_refl _, rfl, ?_⟩⟩
    simp
noncomputable def ssCfg (f g : Bool) : WCfg := { nCfg 0 [] [] [] with loops := fun k => match k with | 4 => some ((ssL f g).row []) | _ => none }
theorem ssN (f g : Bool) (l : List Shr) (h1 : l.length ≤ 1000) : (decide ((↑(List.map shD l).length : Int) ≠ (↑(List.map shD l).length : Int)) = true → D.bool false = D.bool true) ∧ (decide ((↑(List.map shD l).length : Int) ≠ (↑(List.map shD l).length : Int)) = false → ∃ (b : List Shr × List Shr), (b.fst ++ b.snd).length ≤ (1000 : Nat) ∧ (D.sl f (List.map shD (b.fst ++ b.snd)) = D.sl f (List.map shD l) ∧ D.sl g (List.map shD (b.fst ++ b.snd)) = D.sl g (List.map shD l) ∧ D.int IntKind.i64 (↑(List.map shD (b.fst ++ b.snd)).length : Int) = D.int IntKind.i64 (↑(List.map shD l).length : Int) ∧ D.int IntKind.i64 (↑b.fst.length : Int) = D.int IntKind.i64 (0 : Int)) ∧ ∀ (a : Unit), True → D.bool true = D.bool true) := by
  refine ⟨fun h => by simp at h, fun _ => ⟨([], l), by simpa using h1, ?_, fun _ _ => rfl⟩⟩
  simp
def ssS (vs : List D) : Option DOut := match vs with | [.sl f xs, .sl g ys] => some ⟨∃ l : List Shr, xs = l.map shD ∧ ys = l.map shD ∧ l.length ≤ 1000 ∧ True, .bool true⟩ | _ => none
def ssC : Ctr := ⟨22, ssS, by
  intro vs o ho hp
  unfold ssS at ho
  split at ho
  · rename_i f xs g ys
    injection ho with ho; subst ho
    obtain ⟨l, rfl, rfl, h1, h2⟩ := hp
    refine dataFunL (C := ssCfg f g) (ctrs_ok [] rfl rfl) rfl Try.func22 (by kernel_rfl) (l := [lp Try.f22 4]) (by kernel_rfl) ?_ (by kernel_rfl) (by kernel_rfl) (by kernel_rfl) (ssN f g l h1)
    intro x hx
    rw [List.mem_singleton.1 hx]
    exact (ssL f g).fits 4 [] (by kernel_rfl) rfl (ssR f g)
  · cases ho⟩

def smL (f g : Bool) : WLoop :=
  { St := List Stat × List Stat
    O := Unit
    T := fun s => [(0, .sl f ((s.1 ++ s.2).map statD)), (1, .sl g ((s.1 ++ s.2).map statD)), (12, .int .i64 ((s.1 ++ s.2).map statD).length), (13, .int .i64 s.1.length)]
    ok := fun s => (s.1 ++ s.2).length ≤ 1000 ∧ ∀ t ∈ s.2, t.small
    μ := fun s => s.2.length
    m := fun _ => ()
    outs := [{ α := Unit, is := fun _ _ => True, ex := .exit 0, T := fun _ => [] }] }
theorem smR (f g : Bool) (s : (smL f g).St) (hs : (smL f g).ok s) : Tri Try.prog 0 27 (lp Try.f25 4) (tb ((smL f g).T s)) ((smL f g).S s) ((smL f g).q 0 s) := by
  obtain ⟨a, r⟩ := s
  obtain ⟨h1, h2⟩ := hs
  simp only at h1 h2
  cases r with
  | nil =>
    refine round0 (C := nCfg 0 [sameOneC] [] [(14, .f)]) (ctrs_ok ([sameOneC]) rfl rfl) (by kernel_rfl) (by kernel_rfl) (q := decide ((↑a.length : Int) < (↑(List.map statD (a ++ [])).length : Int)) = false ∧ ∃ (a : Unit), True ∧ True) (by kernel_rfl) ?_
    exact ⟨by simp, (), trivial, trivial⟩
  | cons p r =>
    refine round0 (C := nCfg 0 [sameOneC] [] [(14, .t)]) (ctrs_ok ([sameOneC]) rfl rfl) (by kernel_rfl) (by kernel_rfl) (q := decide ((↑a.length : Int) < (↑(List.map statD (a ++ p :: r)).length : Int)) = true ∧ ∃ (y : Stat), (0 : Int) ≤ (↑a.length : Int) ∧ (List.map statD (a ++ p :: r))[(↑a.length : Int).toNat]? = some (D.agg [D.int IntKind.i64 y.id, D.str y.addr, D.int IntKind.i64 y.prio, D.str y.zone, D.int IntKind.i64 y.w, D.sl y.f (List.map pairD y.mt), D.bool y.up, D.int IntKind.i64 y.run, D.int IntKind.i64 y.forced, D.int IntKind.i64 y.wait, D.int IntKind.i64 y.errors, D.int IntKind.i64 y.bok, D.int IntKind.i64 y.ball, D.bool y.out, D.int IntKind.i64 y.frm, D.int IntKind.i64 y.till, D.int IntKind.i64 y.times, D.bool y.drains, D.int IntKind.i64 y.gone, D.int IntKind.i64 y.since, D.int IntKind.i64 y.active]) ∧ ∃ (y_1 : Stat), (0 : Int) ≤ (↑a.length : Int) ∧ (List.map statD (a ++ p :: r))[(↑a.length : Int).toNat]? = some (D.agg [D.int IntKind.i64 y_1.id, D.str y_1.addr, D.int IntKind.i64 y_1.prio, D.str y_1.zone, D.int IntKind.i64 y_1.w, D.sl y_1.f (List.map pairD y_1.mt), D.bool y_1.up, D.int IntKind.i64 y_1.run, D.int IntKind.i64 y_1.forced, D.int IntKind.i64 y_1.wait, D.int IntKind.i64 y_1.errors, D.int IntKind.i64 y_1.bok, D.int IntKind.i64 y_1.ball, D.bool y_1.out, D.int IntKind.i64 y_1.frm, D.int IntKind.i64 y_1.till, D.int IntKind.i64 y_1.times, D.bool y_1.drains, D.int IntKind.i64 y_1.gone, D.int IntKind.i64 y_1.since, D.int IntKind.i64 y_1.active]) ∧ (∃ (t : Stat), ∃ (g : Bool), t.mt.length ≤ (4398046511104 : Nat) ∧ D.agg [D.int IntKind.i64 y.id, D.str y.addr, D.int IntKind.i64 y.prio, D.str y.zone, D.int IntKind.i64 y.w, D.sl y.f (List.map pairD y.mt), D.bool y.up, D.int IntKind.i64 y.run, D.int IntKind.i64 y.forced, D.int IntKind.i64 y.wait, D.int IntKind.i64 y.errors, D.int IntKind.i64 y.bok, D.int IntKind.i64 y.ball, D.bool y.out, D.int IntKind.i64 y.frm, D.int IntKind.i64 y.till, D.int IntKind.i64 y.times, D.bool y.drains, D.int IntKind.i64 y.gone, D.int IntKind.i64 y.since, D.int IntKind.i64 y.active] = D.agg [D.int IntKind.i64 t.id, D.str t.addr, D.int IntKind.i64 t.prio, D.str t.zone, D.int IntKind.i64 t.w, D.sl t.f (List.map pairD t.mt), D.bool t.up, D.int IntKind.i64 t.run, D.int IntKind.i64 t.forced, D.int IntKind.i64 t.wait, D.int IntKind.i64 t.errors, D.int IntKind.i64 t.bok, D.int IntKind.i64 t.ball, D.bool t.out, D.int IntKind.i64 t.frm, D.int IntKind.i64 t.till, D.int IntKind.i64 t.times, D.bool t.drains, D.int IntKind.i64 t.gone, D.int IntKind.i64 t.since, D.int IntKind.i64 t.active] ∧ D.agg [D.int IntKind.i64 y_1.id, D.str y_1.addr, D.int IntKind.i64 y_1.prio, D.str y_1.zone, D.int IntKind.i64 y_1.w, D.sl y_1.f (List.map pairD y_1.mt), D.bool y_1.up, D.int IntKind.i64 y_1.run, D.int IntKind.i64 y_1.forced, D.int IntKind.i64 y_1.wait, D.int IntKind.i64 y_1.errors, D.int IntKind.i64 y_1.bok, D.int IntKind.i64 y_1.ball, D.bool y_1.out, D.int IntKind.i64 y_1.frm, D.int IntKind.i64 y_1.till, D.int IntKind.i64 y_1.times, D.bool y_1.drains, D.int IntKind.i64 y_1.gone, D.int IntKind.i64 y_1.since, D.int IntKind.i64 y_1.active] = D.agg [D.int IntKind.i64 t.id, D.str t.addr, D.int IntKind.i64 t.prio, D.str t.zone, D.int IntKind.i64 t.w, D.sl g (List.map pairD t.mt), D.bool t.up, D.int IntKind.i64 t.run, D.int IntKind.i64 t.forced, D.int IntKind.i64 t.wait, D.int IntKind.i64 t.errors, D.int IntKind.i64 t.bok, D.int IntKind.i64 t.ball, D.bool t.out, D.int IntKind.i64 t.frm, D.int IntKind.i64 t.till, D.int IntKind.i64 t.times, D.bool t.drains, D.int IntKind.i64 t.gone, D.int IntKind.i64 t.since, D.int IntKind.i64 t.active]) ∧ (false = true → False) ∧ (false = false → inK IntKind.i64 ((↑a.length : Int) + (1 : Int)) ∧ ∃ (s' : List Stat × List Stat), ((s'.fst ++ s'.snd).length ≤ (1000 : Nat) ∧ ∀ (t : Stat), List.Mem t s'.snd → t.small) ∧ s'.snd.length.succ ≤ (p :: r).length ∧ () = () ∧ D.sl f (List.map statD (s'.fst ++ s'.snd)) = D.sl f (List.map statD (a ++ p :: r)) ∧ D.sl g (List.map statD (s'.fst ++ s'.snd)) = D.sl g (List.map statD (a ++ p :: r)) ∧ D.int IntKind.i64 (↑(List.map statD (s'.fst ++ s'.snd)).length : Int) = D.int IntKind.i64 (↑(List.map statD (a ++ p :: r)).length : Int) ∧ D.int IntKind.i64 (↑s'.fst.length : Int) = D.int IntKind.i64 ((↑a.length : Int) + (1 : Int)))) (by kernel_rfl) ?_
    have hl : a.length + (r.length + 1) ≤ 1000 := by simpa using h1
    refine ⟨by simp; omega, p, by omega, get_midI statD a p r, p, by omega, get_midI statD a p r, ⟨p, p.f, (h2 p (List.mem_cons_self ..)).2.2.1, rfl, rfl⟩, fun h => by simp at h, fun _ => ⟨by simp only [inK]; omega, (a ++ [p], r), ⟨by simpa using h1, fun x hx => h2 x (List.mem_cons_of_mem _ hx)⟩, Nat.le_refl _, rfl, ?_⟩⟩
    simp
noncomputable def smCfg (f g : Bool) : WCfg := { nCfg 0 [sameOneC] [] [] with loops := fun k => match k with | 4 => some ((smL f g).row []) | _ => none }
theorem smN (f g : Bool) (l : List Stat) (h1 : l.length ≤ 1000) (h2 : ∀ t ∈ l, t.small) : (decide ((↑(List.map statD l).length : Int) ≠ (↑(List.map statD l).length : Int)) = true → D.bool false = D.bool true) ∧ (decide ((↑(List.map statD l).length : Int) ≠ (↑(List.map statD l).length : Int)) = false → ∃ (b : List Stat × List Stat), ((b.fst ++ b.snd).length ≤ (1000 : Nat) ∧ ∀ (t : Stat), List.Mem t b.snd → t.small) ∧ (D.sl f (List.map statD (b.fst ++ b.snd)) = D.sl f (List.map statD l) ∧ D.sl g (List.map statD (b.fst ++ b.snd)) = D.sl g (List.map statD l) ∧ D.int IntKind.i64 (↑(List.map statD (b.fst ++ b.snd)).length : Int) = D.int IntKind.i64 (↑(List.map statD l).length : Int) ∧ D.int IntKind.i64 (↑b.fst.length : Int) = D.int IntKind.i64 (0 : Int)) ∧ ∀ (a : Unit), True → D.bool true = D.bool true) := by
  refine ⟨fun h => by simp at h, fun _ => ⟨([], l), ⟨by simpa using h1, h2⟩, ?_, fun _ _ => rfl⟩⟩
  simp
def smS (vs : List D) : Option DOut := match vs with | [.sl f xs, .sl g ys] => some ⟨∃ l : List Stat, xs = l.map statD ∧ ys = l.map statD ∧ l.length ≤ 1000 ∧ ∀ t ∈ l, t.small, .bool true⟩ | _ => none
def smC : Ctr := ⟨25, smS, by
  intro vs o ho hp
  unfold smS at ho
  split at ho
  · rename_i f xs g ys
    injection ho with ho; subst ho
    obtain ⟨l, rfl, rfl, h1, h2⟩ := hp
    refine dataFunL (C := smCfg f g) (ctrs_ok [sameOneC] rfl rfl) rfl Try.func25 (by kernel_rfl) (l := [lp Try.f25 4]) (by kernel_rfl) ?_ (by kernel_rfl) (by kernel_rfl) (by kernel_rfl) (smN f g l h1 h2)
    intro x hx
    rw [List.mem_singleton.1 hx]
    exact (smL f g).fits 4 [] (by kernel_rfl) rfl (smR f g)
  · cases ho⟩
end Go.Proofs.Ytgibpomhiilehaa.Dv
