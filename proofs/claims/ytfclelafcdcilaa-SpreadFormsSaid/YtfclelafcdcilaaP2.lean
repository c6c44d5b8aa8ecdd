/- Rows of yes and no that are alike. -/
import Derived.Test.YtfclelafcdcilaaP1
set_option linter.unusedVariables false
set_option linter.unusedSimpArgs false
namespace Go.Proofs.Ytfclelafcdcilaa.Dv
open Go Go.Proofs
def boL (f g : Bool) : WLoop :=
  { St := List Bool × List Bool
    O := Unit
    T := fun s => [(0, .sl f ((s.1 ++ s.2).map blD)), (1, .sl g ((s.1 ++ s.2).map blD)), (12, .int .i64 ((s.1 ++ s.2).map blD).length), (13, .int .i64 s.1.length)]
    ok := fun s => (s.1 ++ s.2).length ≤ 1000
    μ := fun s => s.2.length
    m := fun _ => ()
    outs := [{ α := Unit, is := fun _ _ => True, ex := .exit 0, T := fun _ => [] }] }
theorem boR (f g : Bool) (s : (boL f g).St) (hs : (boL f g).ok s) : Tri Try.prog 0 26 (lp Try.f9 4) (tb ((boL f g).T s)) ((boL f g).S s) ((boL f g).q 0 s) := by
  obtain ⟨a, r⟩ := s
  have h1 : (a ++ r).length ≤ 1000 := hs
  cases r with
  | nil =>
    refine round0 (C := sCfg [] [(14, .f)]) (ctrs_ok ([]) rfl rfl) (by kernel_rfl) (by kernel_rfl) (q := decide ((↑a.length : Int) < (↑(List.map blD (a ++ [])).length : Int)) = false ∧ ∃ (a : Unit), True ∧ True) (by kernel_rfl) ?_
    exact ⟨by simp, (), trivial, trivial⟩
  | cons p r =>
    refine round0 (C := sCfg [] [(14, .t)]) (ctrs_ok ([]) rfl rfl) (by kernel_rfl) (by kernel_rfl) (q := decide ((↑a.length : Int) < (↑(List.map blD (a ++ p :: r)).length : Int)) = true ∧ ∃ (y : Bool), (0 : Int) ≤ (↑a.length : Int) ∧ (List.map blD (a ++ p :: r))[(↑a.length : Int).toNat]? = some (D.bool y) ∧ ∃ (y_1 : Bool), (0 : Int) ≤ (↑a.length : Int) ∧ (List.map blD (a ++ p :: r))[(↑a.length : Int).toNat]? = some (D.bool y_1) ∧ ((!decide (y = y_1)) = true → False) ∧ ((!decide (y = y_1)) = false → inK IntKind.i64 ((↑a.length : Int) + (1 : Int)) ∧ ∃ (s' : List Bool × List Bool), (s'.fst ++ s'.snd).length ≤ (1000 : Nat) ∧ s'.snd.length.succ ≤ (p :: r).length ∧ () = () ∧ D.sl f (List.map blD (s'.fst ++ s'.snd)) = D.sl f (List.map blD (a ++ p :: r)) ∧ D.sl g (List.map blD (s'.fst ++ s'.snd)) = D.sl g (List.map blD (a ++ p :: r)) ∧ D.int IntKind.i64 (↑(List.map blD (s'.fst ++ s'.snd)).length : Int) = D.int IntKind.i64 (↑(List.map blD (a ++ p :: r)).length : Int) ∧ D.int IntKind.i64 (↑s'.fst.length : Int) = D.int IntKind.i64 ((↑a.length : Int) + (1 : Int)))) (by kernel_rfl) ?_
    have hl : a.length + (r.length + 1) ≤ 1000 := by simpa using h1
    refine ⟨by simp; omega, p, by omega, get_midI blD a p r, p, by omega, get_midI blD a p r, fun h => by simp at h, fun _ => ⟨by simp only [inK]; omega, (a ++ [p], r), by simpa using h1, Nat.le_refl _, rfl, ?_⟩⟩
    simp
noncomputable def boCfg (f g : Bool) : WCfg := { sCfg [] [] with loops := fun k => match k with | 4 => some ((boL f g).row []) | _ => none }
theorem boN (f g : Bool) (l : List Bool) (h1 : l.length ≤ 1000) : (decide ((↑(List.map blD l).length : Int) ≠ (↑(List.map blD l).length : Int)) = true → D.bool false = D.bool true) ∧ (decide ((↑(List.map blD l).length : Int) ≠ (↑(List.map blD l).length : Int)) = false → ∃ (b : List Bool × List Bool), (b.fst ++ b.snd).length ≤ (1000 : Nat) ∧ (D.sl f (List.map blD (b.fst ++ b.snd)) = D.sl f (List.map blD l) ∧ D.sl g (List.map blD (b.fst ++ b.snd)) = D.sl g (List.map blD l) ∧ D.int IntKind.i64 (↑(List.map blD (b.fst ++ b.snd)).length : Int) = D.int IntKind.i64 (↑(List.map blD l).length : Int) ∧ D.int IntKind.i64 (↑b.fst.length : Int) = D.int IntKind.i64 (0 : Int)) ∧ ∀ (a : Unit), True → D.bool true = D.bool true) := by
  refine ⟨fun h => by simp at h, fun _ => ⟨([], l), by simpa using h1, ?_, fun _ _ => rfl⟩⟩
  simp
def boS (vs : List D) : Option DOut := match vs with | [.sl f xs, .sl g ys] => some ⟨∃ l : List Bool, xs = l.map blD ∧ ys = l.map blD ∧ l.length ≤ 1000 ∧ True, .bool true⟩ | _ => none
def boC : Ctr := ⟨9, boS, by
  intro vs o ho hp
  unfold boS at ho
  split at ho
  · rename_i f xs g ys
    injection ho with ho; subst ho
    obtain ⟨l, rfl, rfl, h1, h2⟩ := hp
    refine dataFunL (C := boCfg f g) (ctrs_ok [] rfl rfl) rfl Try.func9 (by kernel_rfl) (l := [lp Try.f9 4]) (by kernel_rfl) ?_ (by kernel_rfl) (by kernel_rfl) (by kernel_rfl) (boN f g l h1)
    intro x hx
    rw [List.mem_singleton.1 hx]
    exact (boL f g).fits 4 [] (by kernel_rfl) rfl (boR f g)
  · cases ho⟩
end Go.Proofs.Ytfclelafcdcilaa.Dv
