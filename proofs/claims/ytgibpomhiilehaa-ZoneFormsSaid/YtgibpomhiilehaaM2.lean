/- A state and its copy are alike (triageref10.SameOne). -/
import Derived.Test.YtgibpomhiilehaaM1
set_option linter.unusedVariables false
set_option linter.unusedSimpArgs false
namespace Go.Proofs.Ytgibpomhiilehaa.Dv
open Go Go.Proofs
def spL (f g : Bool) : WLoop :=
  { St := List (ByteArray × ByteArray) × List (ByteArray × ByteArray)
    O := Unit
    T := fun s => [(0, .sl f ((s.1 ++ s.2).map pairD)), (1, .sl g ((s.1 ++ s.2).map pairD)), (11, .sl f ((s.1 ++ s.2).map pairD)), (12, .int .i64 ((s.1 ++ s.2).map pairD).length), (13, .int .i64 s.1.length)]
    ok := fun s => (s.1 ++ s.2).length ≤ 4398046511104
    μ := fun s => s.2.length
    m := fun _ => ()
    outs := [{ α := Unit, is := fun _ _ => True, ex := .exit 0, T := fun _ => [] }] }
theorem spR (f g : Bool) (s : (spL f g).St) (hs : (spL f g).ok s) : Tri Try.prog 0 26 (lp Try.f92 4) (tb ((spL f g).T s)) ((spL f g).S s) ((spL f g).q 0 s) := by
  obtain ⟨a, r⟩ := s
  have h1 : (a ++ r).length ≤ 4398046511104 := hs
  cases r with
  | nil =>
    refine round0 (C := jCfg [] [(14, .f)]) (ctrs_ok ([]) rfl rfl) (by kernel_rfl) (by kernel_rfl) (q := decide ((↑a.length : Int) < (↑(List.map pairD (a ++ [])).length : Int)) = false ∧ ∃ (a : Unit), True ∧ True) (by kernel_rfl) ?_
    exact ⟨by simp, (), trivial, trivial⟩
  | cons p r =>
    refine round0 (C := jCfg [] [(14, .t)]) (ctrs_ok ([]) rfl rfl) (by kernel_rfl) (by kernel_rfl) (q := decide ((↑a.length : Int) < (↑(List.map pairD (a ++ p :: r)).length : Int)) = true ∧ ∃ (y : ByteArray × ByteArray), (0 : Int) ≤ (↑a.length : Int) ∧ (List.map pairD (a ++ p :: r))[(↑a.length : Int).toNat]? = some (D.agg [D.str y.fst, D.str y.snd]) ∧ ∃ (y_1 : ByteArray × ByteArray), (0 : Int) ≤ (↑a.length : Int) ∧ (List.map pairD (a ++ p :: r))[(↑a.length : Int).toNat]? = some (D.agg [D.str y_1.fst, D.str y_1.snd]) ∧ ((![decide (y.fst = y_1.fst), decide (y.snd = y_1.snd)].all id) = true → False) ∧ ((![decide (y.fst = y_1.fst), decide (y.snd = y_1.snd)].all id) = false → inK IntKind.i64 ((↑a.length : Int) + (1 : Int)) ∧ ∃ (s' : List (ByteArray × ByteArray) × List (ByteArray × ByteArray)), (s'.fst ++ s'.snd).length ≤ (4398046511104 : Nat) ∧ s'.snd.length.succ ≤ (p :: r).length ∧ () = () ∧ D.sl f (List.map pairD (s'.fst ++ s'.snd)) = D.sl f (List.map pairD (a ++ p :: r)) ∧ D.sl g (List.map pairD (s'.fst ++ s'.snd)) = D.sl g (List.map pairD (a ++ p :: r)) ∧ D.sl f (List.map pairD (s'.fst ++ s'.snd)) = D.sl f (List.map pairD (a ++ p :: r)) ∧ D.int IntKind.i64 (↑(List.map pairD (s'.fst ++ s'.snd)).length : Int) = D.int IntKind.i64 (↑(List.map pairD (a ++ p :: r)).length : Int) ∧ D.int IntKind.i64 (↑s'.fst.length : Int) = D.int IntKind.i64 ((↑a.length : Int) + (1 : Int)))) (by kernel_rfl) ?_
    have hl : a.length + (r.length + 1) ≤ 4398046511104 := by simpa using h1
    refine ⟨by simp; omega, p, by omega, get_midI pairD a p r, p, by omega, get_midI pairD a p r, fun h => by simp at h, fun _ => ⟨by simp only [inK]; omega, (a ++ [p], r), by simpa using h1, Nat.le_refl _, rfl, ?_⟩⟩
    simp
noncomputable def spCfg (f g : Bool) : WCfg := { jCfg [] [] with loops := fun k => match k with | 4 => some ((spL f g).row []) | _ => none }
theorem spN (f g : Bool) (l : List (ByteArray × ByteArray)) (h1 : l.length ≤ 4398046511104) : (decide ((↑(List.map pairD l).length : Int) ≠ (↑(List.map pairD l).length : Int)) = true → D.bool false = D.bool true) ∧ (decide ((↑(List.map pairD l).length : Int) ≠ (↑(List.map pairD l).length : Int)) = false → ∃ (b : List (ByteArray × ByteArray) × List (ByteArray × ByteArray)), (b.fst ++ b.snd).length ≤ (4398046511104 : Nat) ∧ (D.sl f (List.map pairD (b.fst ++ b.snd)) = D.sl f (List.map pairD l) ∧ D.sl g (List.map pairD (b.fst ++ b.snd)) = D.sl g (List.map pairD l) ∧ D.sl f (List.map pairD (b.fst ++ b.snd)) = D.sl f (List.map pairD l) ∧ D.int IntKind.i64 (↑(List.map pairD (b.fst ++ b.snd)).length : Int) = D.int IntKind.i64 (↑(List.map pairD l).length : Int) ∧ D.int IntKind.i64 (↑b.fst.length : Int) = D.int IntKind.i64 (0 : Int)) ∧ ∀ (a : Unit), True → D.bool true = D.bool true) := by
  refine ⟨fun h => by simp at h, fun _ => ⟨([], l), by simpa using h1, ?_, fun _ _ => rfl⟩⟩
  simp
def spS (vs : List D) : Option DOut := match vs with | [.sl f xs, .sl g ys] => some ⟨∃ l : List (ByteArray × ByteArray), xs = l.map pairD ∧ ys = l.map pairD ∧ l.length ≤ 4398046511104, .bool true⟩ | _ => none
/-- Alike pairs are told to be alike. -/
def samePairsC : Ctr := ⟨92, spS, by
  intro vs o ho hp
  unfold spS at ho
  split at ho
  · rename_i f xs g ys
    injection ho with ho; subst ho
    obtain ⟨l, rfl, rfl, h2⟩ := hp
    refine dataFunL (C := spCfg f g) (ctrs_ok [] rfl rfl) rfl Try.func92 (by kernel_rfl) (l := [lp Try.f92 4]) (by kernel_rfl) ?_ (by kernel_rfl) (by kernel_rfl) (by kernel_rfl) (spN f g l h2)
    intro x hx
    rw [List.mem_singleton.1 hx]
    exact (spL f g).fits 4 [] (by kernel_rfl) rfl (spR f g)
  · cases ho⟩
theorem shN (t : Stat) (g : Bool) (h : t.mt.length ≤ 4398046511104) : (decide (t.id = t.id) = true → (decide (t.addr = t.addr) = true → (decide (t.prio = t.prio) = true → (decide (t.zone = t.zone) = true → (decide (t.w = t.w) = true → (∃ (l : List (ByteArray × ByteArray)), List.map pairD t.mt = List.map pairD l ∧ List.map pairD t.mt = List.map pairD l ∧ l.length ≤ (4398046511104 : Nat)) ∧ D.bool true = D.bool true) ∧ (decide (t.w = t.w) = false → D.bool false = D.bool true)) ∧ (decide (t.zone = t.zone) = false → D.bool false = D.bool true)) ∧ (decide (t.prio = t.prio) = false → D.bool false = D.bool true)) ∧ (decide (t.addr = t.addr) = false → D.bool false = D.bool true)) ∧ (decide (t.id = t.id) = false → D.bool false = D.bool true) := by
  refine ⟨fun _ => ⟨fun _ => ⟨fun _ => ⟨fun _ => ⟨fun _ => ⟨⟨t.mt, rfl, rfl, h⟩, rfl⟩, fun h => ?_⟩, fun h => ?_⟩, fun h => ?_⟩, fun h => ?_⟩, fun h => ?_⟩
  all_goals (exfalso; simp at h)
def shS (vs : List D) : Option DOut := match vs with | [a, b] => some ⟨∃ (t : Stat) (g : Bool), t.mt.length ≤ 4398046511104 ∧ a = t.host ∧ b = Stat.host { t with f := g }, .bool true⟩ | _ => none
def sameHostC : Ctr := ⟨58, shS, by
  intro vs o ho hp
  unfold shS at ho
  split at ho
  · injection ho with ho; subst ho
    obtain ⟨t, g, h, rfl, rfl⟩ := hp
    exact dataFun0 (C := jCfg [samePairsC] []) (ctrs_ok [samePairsC] rfl rfl) rfl Try.func58 (by kernel_rfl) (by kernel_rfl) (by kernel_rfl) (by kernel_rfl) (by kernel_rfl) (shN t g h)
  · cases ho⟩
theorem soN (t : Stat) (g : Bool) (h : t.mt.length ≤ 4398046511104) : (∃ (t_1 : Stat), ∃ (g_1 : Bool), t_1.mt.length ≤ (4398046511104 : Nat) ∧ D.agg [D.int IntKind.i64 t.id, D.str t.addr, D.int IntKind.i64 t.prio, D.str t.zone, D.int IntKind.i64 t.w, D.sl t.f (List.map pairD t.mt)] = D.agg [D.int IntKind.i64 t_1.id, D.str t_1.addr, D.int IntKind.i64 t_1.prio, D.str t_1.zone, D.int IntKind.i64 t_1.w, D.sl t_1.f (List.map pairD t_1.mt)] ∧ D.agg [D.int IntKind.i64 t.id, D.str t.addr, D.int IntKind.i64 t.prio, D.str t.zone, D.int IntKind.i64 t.w, D.sl g (List.map pairD t.mt)] = D.agg [D.int IntKind.i64 t_1.id, D.str t_1.addr, D.int IntKind.i64 t_1.prio, D.str t_1.zone, D.int IntKind.i64 t_1.w, D.sl g_1 (List.map pairD t_1.mt)]) ∧ (true = true → ([decide (t.up = t.up), decide (t.run = t.run), decide (t.forced = t.forced), decide (t.wait = t.wait)].all id = true → (decide (t.errors = t.errors) = true → ([decide (t.bok = t.bok), decide (t.ball = t.ball)].all id = true → ([decide (t.out = t.out), decide (t.frm = t.frm), decide (t.till = t.till), decide (t.times = t.times)].all id = true → (decide (t.drains = t.drains) = true → (decide (t.gone = t.gone) = true → (decide (t.since = t.since) = true → D.bool (decide (t.active = t.active)) = D.bool true) ∧ (decide (t.since = t.since) = false → D.bool false = D.bool true)) ∧ (decide (t.gone = t.gone) = false → D.bool false = D.bool true)) ∧ (decide (t.drains = t.drains) = false → D.bool false = D.bool true)) ∧ ([decide (t.out = t.out), decide (t.frm = t.frm), decide (t.till = t.till), decide (t.times = t.times)].all id = false → D.bool false = D.bool true)) ∧ ([decide (t.bok = t.bok), decide (t.ball = t.ball)].all id = false → D.bool false = D.bool true)) ∧ (decide (t.errors = t.errors) = false → D.bool false = D.bool true)) ∧ ([decide (t.up = t.up), decide (t.run = t.run), decide (t.forced = t.forced), decide (t.wait = t.wait)].all id = false → D.bool false = D.bool true)) ∧ (true = false → D.bool false = D.bool true) := by
  exact ⟨⟨t, g, h, rfl, rfl⟩, by simp⟩
def soS (vs : List D) : Option DOut := match vs with | [a, b] => some ⟨∃ (t : Stat) (g : Bool), t.mt.length ≤ 4398046511104 ∧ a = statD t ∧ b = statD { t with f := g }, .bool true⟩ | _ => none
/-- A state and its copy are told to be alike. -/
def sameOneC : Ctr := ⟨28, soS, by
  intro vs o ho hp
  unfold soS at ho
  split at ho
  · injection ho with ho; subst ho
    obtain ⟨t, g, h, rfl, rfl⟩ := hp
    exact dataFun0 (C := jCfg [sameHostC] []) (ctrs_ok [sameHostC] rfl rfl) rfl Try.func28 (by kernel_rfl) (by kernel_rfl) (by kernel_rfl) (by kernel_rfl) (by kernel_rfl) (soN t g h)
  · cases ho⟩
end Go.Proofs.Ytgibpomhiilehaa.Dv
