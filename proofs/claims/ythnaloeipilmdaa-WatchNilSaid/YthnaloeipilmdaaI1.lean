/- What was told (printed by wip/tools/told.py). -/
import Derived.Test.YthnaloeipilmdaaG2
set_option linter.unusedVariables false
set_option linter.unusedSimpArgs false
namespace Go.Proofs.Ythnaloeipilmdaa.Dv
open Go Go.Proofs
structure Move where
  at0 : Int
  kind : Int
  host : Int
def movD (m : Move) : D := .agg [.int .i64 m.at0, .int .i64 m.kind, .int .i64 m.host]
def dMov : D → Move
  | .agg [.int _ a, .int _ b, .int _ c] => ⟨a, b, c⟩
  | _ => ⟨0, 0, 0⟩
theorem map_dMov (l : List Move) : (l.map movD).map dMov = l := by rw [List.map_map]; exact (List.map_congr_left fun x _ => rfl).trans (List.map_id l)
structure Told where
  kind : Int
  id : Int
  n : Int
  ok : Bool
  hid : Int
  haddr : ByteArray
  hprio : Int
  hzone : ByteArray
  hw : Int
  fhmeta : Bool
  hmeta : List D
  fhosts : Bool
  hosts : List D
  text : ByteArray
  key : ByteArray
  fsubset : Bool
  subset : List D
  fnots : Bool
  nots : List Int
  fdraws : Bool
  draws : List D
  err : Int
  line : Int
  host : Int
  ticket : Int
  pan : Bool
  fsent : Bool
  sent : List D
  fmoves : Bool
  moves : List Move
  fstats : Bool
  stats : List D
  open1 : Int
  now : Int
def Told.s (t : Told) : D := .agg [.int .i64 t.kind, .int .i64 t.id, .int .i64 t.n, .bool t.ok, .int .i64 t.hid, .str t.haddr, .int .i64 t.hprio, .str t.hzone, .int .i64 t.hw, .sl t.fhmeta t.hmeta, .sl t.fhosts t.hosts, .str t.text, .str t.key, .sl t.fsubset t.subset, .sl t.fnots (t.nots.map iD), .sl t.fdraws t.draws]
def Told.a (t : Told) : D := .agg [.int .i64 t.err, .int .i64 t.line, .int .i64 t.host, .int .i64 t.ticket, .bool t.pan, .sl t.fsent t.sent, .sl t.fmoves (t.moves.map movD), .sl t.fstats t.stats, .int .i64 t.open1, .int .i64 t.now]
def toldD (t : Told) : D := .agg [.int .i64 t.kind, .int .i64 t.id, .int .i64 t.n, .bool t.ok, .int .i64 t.hid, .str t.haddr, .int .i64 t.hprio, .str t.hzone, .int .i64 t.hw, .sl t.fhmeta t.hmeta, .sl t.fhosts t.hosts, .str t.text, .str t.key, .sl t.fsubset t.subset, .sl t.fnots (t.nots.map iD), .sl t.fdraws t.draws, .int .i64 t.err, .int .i64 t.line, .int .i64 t.host, .int .i64 t.ticket, .bool t.pan, .sl t.fsent t.sent, .sl t.fmoves (t.moves.map movD), .sl t.fstats t.stats, .int .i64 t.open1, .int .i64 t.now]
def dTold : D → Told
  | .agg [.int _ v0, .int _ v1, .int _ v2, .bool v3, .int _ v4, .str v5, .int _ v6, .str v7, .int _ v8, .sl w9 v9, .sl w10 v10, .str v11, .str v12, .sl w13 v13, .sl w14 v14, .sl w15 v15, .int _ v16, .int _ v17, .int _ v18, .int _ v19, .bool v20, .sl w21 v21, .sl w22 v22, .sl w23 v23, .int _ v24, .int _ v25] => ⟨v0, v1, v2, v3, v4, v5, v6, v7, v8, w9, v9, w10, v10, v11, v12, w13, v13, w14, (v14.map dI), w15, v15, v16, v17, v18, v19, v20, w21, v21, w22, (v22.map dMov), w23, v23, v24, v25⟩
  | _ => ⟨0, 0, 0, false, 0, .empty, 0, .empty, 0, false, [], false, [], .empty, .empty, false, [], false, [], false, [], 0, 0, 0, 0, false, false, [], false, [], false, [], 0, 0⟩
theorem dTold_toldD (t : Told) : dTold (toldD t) = t := by
  unfold toldD dTold
  simp only [map_dI, map_dMov]
theorem map_dTold (l : List Told) : (l.map toldD).map dTold = l := by rw [List.map_map]; exact (List.map_congr_left fun x _ => dTold_toldD x).trans (List.map_id l)
def Told.small (t : Told) : Prop := t.moves.length ≤ 1000000000000000000 ∧ t.sent.length ≤ 1000000000000000000 ∧ t.nots.length ≤ 1000000000000000000
def tHeavy (t : Told) : Prop := 100 < (t.moves.length : Int) + t.sent.length + t.nots.length
instance (t : Told) : Decidable (tHeavy t) := by unfold tHeavy; infer_instance
/-- The first that is heavy. -/
def hvM : List Told → Int → Int
  | [], _ => 0
  | t :: r, i => if 150 ≤ i ∨ tHeavy t then i + 1 else hvM r (i + 1)
def codsW : TypeId → Option Codec
  | 75 => some ⟨Told, toldD⟩
  | 83 => some ⟨Move, movD⟩
  | 3 => some ⟨Int, iD⟩
  | _ => none
def wCfg (l : List Ctr) (m : List RCtr) (h : List (Nat × Hn)) : WCfg := { spec := specOf l, bspec := bspecOf m, byref := byrefOf m, ro := roOf m, cod := codsW, H := hints h }
def hvL (f : Bool) : WLoop :=
  { St := List Told × List Told
    O := Int
    T := fun s => [(5, .sl f ((s.1 ++ s.2).map toldD)), (6, .int .i64 ((s.1 ++ s.2).map toldD).length), (7, .int .i64 s.1.length)]
    ok := fun s => (s.1 ++ s.2).length ≤ 140737488355328 ∧ ∀ t ∈ s.2, t.small
    μ := fun s => s.2.length
    m := fun s => hvM s.2 s.1.length
    outs := [{ α := Unit, is := fun o _ => o = 0, ex := .exit 0, T := fun _ => [] }, { α := Int, is := fun o a => o = a, ex := .ret, T := fun a => [(2, .int .i64 a)] }] }
theorem hvR (f : Bool) (s : (hvL f).St) (hs : (hvL f).ok s) : Tri Try.prog 0 34 (lp Try.f41 2) (tb ((hvL f).T s)) ((hvL f).S s) ((hvL f).q 0 s) := by
  obtain ⟨a, r⟩ := s
  obtain ⟨h1, h2⟩ := hs
  simp only at h1 h2
  cases r with
  | nil =>
    refine round0 (C := wCfg [] [] [(8, .f)]) (ctrs_ok ([]) rfl rfl) (by kernel_rfl) (by kernel_rfl) (q := decide ((↑a.length : Int) < (↑(List.map toldD (a ++ [])).length : Int)) = false ∧ ∃ (a : Unit), Int.ofNat (0 : Nat) = (0 : Int) ∧ True) (by kernel_rfl) ?_
    exact ⟨by simp, (), rfl, by trivial⟩
  | cons t r =>
    refine round0 (C := wCfg [] [] [(8, .t)]) (ctrs_ok ([]) rfl rfl) (by kernel_rfl) (by kernel_rfl) (q := decide ((↑a.length : Int) < (↑(List.map toldD (a ++ t :: r)).length : Int)) = true ∧ ∃ (y : Told), (0 : Int) ≤ (↑a.length : Int) ∧ (List.map toldD (a ++ t :: r))[(↑a.length : Int).toNat]? = some (D.agg [D.int IntKind.i64 y.kind, D.int IntKind.i64 y.id, D.int IntKind.i64 y.n, D.bool y.ok, D.int IntKind.i64 y.hid, D.str y.haddr, D.int IntKind.i64 y.hprio, D.str y.hzone, D.int IntKind.i64 y.hw, D.sl y.fhmeta y.hmeta, D.sl y.fhosts y.hosts, D.str y.text, D.str y.key, D.sl y.fsubset y.subset, D.sl y.fnots (List.map iD y.nots), D.sl y.fdraws y.draws, D.int IntKind.i64 y.err, D.int IntKind.i64 y.line, D.int IntKind.i64 y.host, D.int IntKind.i64 y.ticket, D.bool y.pan, D.sl y.fsent y.sent, D.sl y.fmoves (List.map movD y.moves), D.sl y.fstats y.stats, D.int IntKind.i64 y.open1, D.int IntKind.i64 y.now]) ∧ (decide ((150 : Int) ≤ (↑a.length : Int)) = true → inK IntKind.i64 ((↑a.length : Int) + (1 : Int)) ∧ ∃ (a_2 : Int), hvM (t :: r) (↑a.length : Int) = a_2 ∧ D.int IntKind.i64 a_2 = D.int IntKind.i64 ((↑a.length : Int) + (1 : Int))) ∧ (decide ((150 : Int) ≤ (↑a.length : Int)) = false → inK IntKind.i64 ((↑(List.map movD y.moves).length : Int) + (↑y.sent.length : Int)) ∧ inK IntKind.i64 ((↑(List.map movD y.moves).length : Int) + (↑y.sent.length : Int) + (↑(List.map iD y.nots).length : Int)) ∧ (decide ((100 : Int) < (↑(List.map movD y.moves).length : Int) + (↑y.sent.length : Int) + (↑(List.map iD y.nots).length : Int)) = true → inK IntKind.i64 ((↑a.length : Int) + (1 : Int)) ∧ ∃ (a_3 : Int), hvM (t :: r) (↑a.length : Int) = a_3 ∧ D.int IntKind.i64 a_3 = D.int IntKind.i64 ((↑a.length : Int) + (1 : Int))) ∧ (decide ((100 : Int) < (↑(List.map movD y.moves).length : Int) + (↑y.sent.length : Int) + (↑(List.map iD y.nots).length : Int)) = false → inK IntKind.i64 ((↑a.length : Int) + (1 : Int)) ∧ ∃ (s' : List Told × List Told), ((s'.fst ++ s'.snd).length ≤ (140737488355328 : Nat) ∧ ∀ (t : Told), List.Mem t s'.snd → t.moves.length ≤ (1000000000000000000 : Nat) ∧ t.sent.length ≤ (1000000000000000000 : Nat) ∧ t.nots.length ≤ (1000000000000000000 : Nat)) ∧ s'.snd.length.succ ≤ (t :: r).length ∧ hvM s'.snd (↑s'.fst.length : Int) = hvM (t :: r) (↑a.length : Int) ∧ D.sl f (List.map toldD (s'.fst ++ s'.snd)) = D.sl f (List.map toldD (a ++ t :: r)) ∧ D.int IntKind.i64 (↑(List.map toldD (s'.fst ++ s'.snd)).length : Int) = D.int IntKind.i64 (↑(List.map toldD (a ++ t :: r)).length : Int) ∧ D.int IntKind.i64 (↑s'.fst.length : Int) = D.int IntKind.i64 ((↑a.length : Int) + (1 : Int))))) (by kernel_rfl) ?_
    have hl : a.length + (r.length + 1) ≤ 140737488355328 := by simpa using h1
    obtain ⟨g1, g2, g3⟩ := h2 t (List.mem_cons_self ..)
    have ht : hvM (t :: r) a.length = if 150 ≤ (a.length : Int) ∨ tHeavy t then (a.length : Int) + 1 else hvM r (a.length + 1) := rfl
    refine ⟨by simp; omega, t, by omega, get_midI toldD a t r, ?_⟩
    rw [ht]
    simp only [List.length_map, inK, decide_eq_true_eq, decide_eq_false_iff_not]
    refine ⟨fun h => ⟨by omega, _, rfl, ?_⟩, fun h => ⟨by omega, by omega, fun h' => ⟨by omega, _, rfl, ?_⟩, fun h' => ⟨by omega, (a ++ [t], r), ⟨by simpa using h1, fun x hx => h2 x (List.mem_cons_of_mem _ hx)⟩, Nat.le_refl _, ?_, ?_⟩⟩⟩
    · rw [if_pos (.inl h)]
    · rw [if_pos (.inr h')]
    · rw [if_neg (by rintro (h0 | h0); exact h h0; exact h' h0)]
      simp
    · simp
def hvS (vs : List D) : Option DOut := match vs with | [.sl _ xs] => some ⟨∃ l : List Told, xs = l.map toldD ∧ l.length ≤ 140737488355328 ∧ ∀ t ∈ l, t.small, .int .i64 (hvM (xs.map dTold) 0)⟩ | _ => none
noncomputable def hvCfg (f : Bool) : WCfg := { wCfg [] [] [] with loops := fun k => match k with | 2 => some ((hvL f).row []) | _ => none }
theorem hvN (f : Bool) (l : List Told) (h1 : l.length ≤ 140737488355328) (h2 : ∀ t ∈ l, t.small) : ∃ (b : List Told × List Told), ((b.fst ++ b.snd).length ≤ (140737488355328 : Nat) ∧ ∀ (t : Told), List.Mem t b.snd → t.moves.length ≤ (1000000000000000000 : Nat) ∧ t.sent.length ≤ (1000000000000000000 : Nat) ∧ t.nots.length ≤ (1000000000000000000 : Nat)) ∧ (D.sl f (List.map toldD (b.fst ++ b.snd)) = D.sl f (List.map toldD l) ∧ D.int IntKind.i64 (↑(List.map toldD (b.fst ++ b.snd)).length : Int) = D.int IntKind.i64 (↑(List.map toldD l).length : Int) ∧ D.int IntKind.i64 (↑b.fst.length : Int) = D.int IntKind.i64 (0 : Int)) ∧ (∀ (a : Unit), hvM b.snd (↑b.fst.length : Int) = (0 : Int) → D.int IntKind.i64 (0 : Int) = D.int IntKind.i64 (hvM l (0 : Int))) ∧ ∀ (a : Int), hvM b.snd (↑b.fst.length : Int) = a → D.int IntKind.i64 a = D.int IntKind.i64 (hvM l (0 : Int)) := by
  refine ⟨([], l), ⟨by simpa using h1, h2⟩, by simp, fun _ h => ?_, fun a h => ?_⟩
  · rw [← show hvM l ((([] : List Told).length : Nat) : Int) = hvM l 0 from rfl, h]
  · rw [← h]; rfl
theorem hv_fits (f : Bool) : ∀ x ∈ [lp Try.f41 2], LoopFits Try.prog (hvCfg f) 34 x := by
  intro x hx
  rw [List.mem_singleton.1 hx]
  exact (hvL f).fits 2 [] (by kernel_rfl) rfl (hvR f)
def hvC : Ctr := ⟨41, hvS, by
  intro vs o ho hp
  unfold hvS at ho
  split at ho
  · rename_i f xs
    injection ho with ho; subst ho
    obtain ⟨l, rfl, h2, h3⟩ := hp
    simp only [map_dTold]
    exact dataFunL (C := hvCfg f) (ctrs_ok [] rfl rfl) rfl Try.func41 (by kernel_rfl) (l := [lp Try.f41 2]) (by kernel_rfl) (hv_fits f) (by kernel_rfl) (by kernel_rfl) (by kernel_rfl) (hvN f l h2 h3)
  · cases ho⟩
theorem nilSeeN (t : Told) : true = true ∧ D.bool false = D.bool false := (by trivial)
def nilSeeC : Ctr := ⟨44, fun vs => match vs with | [.nilp, a, b] => some ⟨∃ t : Told, a = t.s ∧ b = t.a, .bool false⟩ | _ => none, by
  intro vs o ho hp
  split at ho
  · injection ho with ho; subst ho
    obtain ⟨t, rfl, rfl⟩ := hp
    exact dataFun0 (C := wCfg [] [] [(9, .t)]) (ctrs_ok [] rfl rfl) rfl Try.func44 (by kernel_rfl) (by kernel_rfl) (by kernel_rfl) (by kernel_rfl) (by kernel_rfl) (nilSeeN t)
  · cases ho⟩
theorem nilOpenN : true = true ∧ D.int IntKind.i64 (0 : Int) = D.int IntKind.i64 (0 : Int) := (by trivial)
def nilOpenC : Ctr := ⟨47, fun vs => match vs with | [.nilp] => some ⟨True, .int .i64 0⟩ | _ => none, by
  intro vs o ho hp
  split at ho
  · injection ho with ho; subst ho
    exact dataFun0 (C := wCfg [] [] [(4, .t)]) (ctrs_ok [] rfl rfl) rfl Try.func47 (by kernel_rfl) (by kernel_rfl) (by kernel_rfl) (by kernel_rfl) (by kernel_rfl) nilOpenN
  · cases ho⟩
noncomputable def thNil : WCfg := wCfg [] [] [(9, .t)]
theorem nilThoseN (f : FuncId) : true = true ∧ D.sl true [] = D.sl true [] := (by trivial)
def nilThoseC : Ctr := ⟨96, fun vs => match vs with | [.nilp, .fn f [] []] => some ⟨True, .sl true []⟩ | _ => none, by
  intro vs o ho hp
  split at ho
  · rename_i f
    injection ho with ho; subst ho
    exact dataFunL (C := thNil) (ctrs_ok [] rfl rfl) rfl Try.func96 (by kernel_rfl) (l := [lp Try.f96 5]) (by kernel_rfl) (by intro x hx row hr; rw [List.mem_singleton.1 hx] at hr; cases hr) (by kernel_rfl) (by kernel_rfl) (by kernel_rfl) (nilThoseN f)
  · cases ho⟩
theorem nilHostsN : True ∧ D.sl true [] = D.sl true [] := (by trivial)
def nilHostsC : Ctr := ⟨48, fun vs => match vs with | [.nilp] => some ⟨True, .sl true []⟩ | _ => none, by
  intro vs o ho hp
  split at ho
  · injection ho with ho; subst ho
    exact dataFun0 (C := wCfg [nilThoseC] [] []) (ctrs_ok [nilThoseC] rfl rfl) rfl Try.func48 (by kernel_rfl) (by kernel_rfl) (by kernel_rfl) (by kernel_rfl) (by kernel_rfl) nilHostsN
  · cases ho⟩
theorem nilOutN : True ∧ D.sl true [] = D.sl true [] := (by trivial)
def nilOutC : Ctr := ⟨49, fun vs => match vs with | [.nilp] => some ⟨True, .sl true []⟩ | _ => none, by
  intro vs o ho hp
  split at ho
  · injection ho with ho; subst ho
    exact dataFun0 (C := wCfg [nilThoseC] [] []) (ctrs_ok [nilThoseC] rfl rfl) rfl Try.func49 (by kernel_rfl) (by kernel_rfl) (by kernel_rfl) (by kernel_rfl) (by kernel_rfl) nilOutN
  · cases ho⟩
noncomputable def wnC : List Ctr := [hvC, nilSeeC, nilOpenC, nilHostsC, nilOutC, aw26]
theorem wnN (t : Told) (ht : t.small) : (1 : Nat) ≤ (1 : Nat) ∧ true = true ∧ (∃ (l : List Told), [D.agg [D.int IntKind.i64 t.kind, D.int IntKind.i64 t.id, D.int IntKind.i64 t.n, D.bool t.ok, D.int IntKind.i64 t.hid, D.str t.haddr, D.int IntKind.i64 t.hprio, D.str t.hzone, D.int IntKind.i64 t.hw, D.sl t.fhmeta t.hmeta, D.sl t.fhosts t.hosts, D.str t.text, D.str t.key, D.sl t.fsubset t.subset, D.sl t.fnots (List.map iD t.nots), D.sl t.fdraws t.draws, D.int IntKind.i64 t.err, D.int IntKind.i64 t.line, D.int IntKind.i64 t.host, D.int IntKind.i64 t.ticket, D.bool t.pan, D.sl t.fsent t.sent, D.sl t.fmoves (List.map movD t.moves), D.sl t.fstats t.stats, D.int IntKind.i64 t.open1, D.int IntKind.i64 t.now]] = List.map toldD l ∧ l.length ≤ (140737488355328 : Nat) ∧ ∀ (t : Told), List.Mem t l → t.moves.length ≤ (1000000000000000000 : Nat) ∧ t.sent.length ≤ (1000000000000000000 : Nat) ∧ t.nots.length ≤ (1000000000000000000 : Nat)) ∧ (decide ((0 : Int) < hvM [Told.mk t.kind t.id t.n t.ok t.hid t.haddr t.hprio t.hzone t.hw t.fhmeta t.hmeta t.fhosts t.hosts t.text t.key t.fsubset t.subset t.fnots (List.map dI (List.map iD t.nots)) t.fdraws t.draws t.err t.line t.host t.ticket t.pan t.fsent t.sent t.fmoves (List.map dMov (List.map movD t.moves)) t.fstats t.stats t.open1 t.now] (0 : Int)) = true → True ∧ D.bool true = D.bool true) ∧ (decide ((0 : Int) < hvM [Told.mk t.kind t.id t.n t.ok t.hid t.haddr t.hprio t.hzone t.hw t.fhmeta t.hmeta t.fhosts t.hosts t.text t.key t.fsubset t.subset t.fnots (List.map dI (List.map iD t.nots)) t.fdraws t.draws t.err t.line t.host t.ticket t.pan t.fsent t.sent t.fmoves (List.map dMov (List.map movD t.moves)) t.fstats t.stats t.open1 t.now] (0 : Int)) = false → (∃ (t_1 : Told), D.agg [D.int IntKind.i64 t.kind, D.int IntKind.i64 t.id, D.int IntKind.i64 t.n, D.bool t.ok, D.int IntKind.i64 t.hid, D.str t.haddr, D.int IntKind.i64 t.hprio, D.str t.hzone, D.int IntKind.i64 t.hw, D.sl t.fhmeta t.hmeta, D.sl t.fhosts t.hosts, D.str t.text, D.str t.key, D.sl t.fsubset t.subset, D.sl t.fnots (List.map iD t.nots), D.sl t.fdraws t.draws] = D.agg [D.int IntKind.i64 t_1.kind, D.int IntKind.i64 t_1.id, D.int IntKind.i64 t_1.n, D.bool t_1.ok, D.int IntKind.i64 t_1.hid, D.str t_1.haddr, D.int IntKind.i64 t_1.hprio, D.str t_1.hzone, D.int IntKind.i64 t_1.hw, D.sl t_1.fhmeta t_1.hmeta, D.sl t_1.fhosts t_1.hosts, D.str t_1.text, D.str t_1.key, D.sl t_1.fsubset t_1.subset, D.sl t_1.fnots (List.map iD t_1.nots), D.sl t_1.fdraws t_1.draws] ∧ D.agg [D.int IntKind.i64 t.err, D.int IntKind.i64 t.line, D.int IntKind.i64 t.host, D.int IntKind.i64 t.ticket, D.bool t.pan, D.sl t.fsent t.sent, D.sl t.fmoves (List.map movD t.moves), D.sl t.fstats t.stats, D.int IntKind.i64 t.open1, D.int IntKind.i64 t.now] = D.agg [D.int IntKind.i64 t_1.err, D.int IntKind.i64 t_1.line, D.int IntKind.i64 t_1.host, D.int IntKind.i64 t_1.ticket, D.bool t_1.pan, D.sl t_1.fsent t_1.sent, D.sl t_1.fmoves (List.map movD t_1.moves), D.sl t_1.fstats t_1.stats, D.int IntKind.i64 t_1.open1, D.int IntKind.i64 t_1.now]) ∧ (true = true → True ∧ (true = true → True ∧ True ∧ inK IntKind.i64 ((0 : Int) + (0 : Int)) ∧ (true = true → True ∧ D.bool true = D.bool true) ∧ (true = false → D.bool false = D.bool true)) ∧ (true = false → D.bool false = D.bool true)) ∧ (true = false → D.bool false = D.bool true)) := by
  refine ⟨by omega, (by trivial), ⟨[t], (by trivial), by simp, fun x hx => by rw [List.mem_singleton.1 hx]; exact ht⟩, fun _ => (by trivial), fun _ => ⟨⟨t, (by trivial), (by trivial)⟩, ?_⟩⟩
  simp [inK]
theorem okl_intsE {ys : List D} (h1 : ∀ y ∈ ys, y.isAgg = false) (h2 : ∀ y ∈ ys, OkL reachBytes [.int .i64] y.cells) : ∃ l : List Int, ys = l.map iD := by
  obtain ⟨l, h, _⟩ := ok_ints h1 fun y hy => (h2 y hy).ok lim_le
  exact ⟨l, h⟩
theorem okl_movesE {ys : List D} (h1 : ∀ y ∈ ys, y.isAgg = true) (h2 : ∀ y ∈ ys, OkL reachBytes [.int .i64, .int .i64, .int .i64] y.cells) : ∃ l : List Move, ys = l.map movD := by
  refine list_of fun y hy => ?_
  have ha := h1 y hy
  have hb := h2 y hy
  cases y with
  | agg ds =>
    cases hb with | int g0 t0 =>
    cases t0 with | int g1 t1 =>
    cases t1 with | int g2 t2 =>
    cases t2
    exact ⟨⟨_, _, _⟩, rfl⟩
  | _ => cases ha
theorem toldL_of {x : List D} (o : OkL reachBytes [.int .i64, .int .i64, .int .i64, .bool, .int .i64, .str, .int .i64, .str, .int .i64, .sl true [.str, .str], .sl true [.int .i64, .str, .int .i64, .str, .int .i64, .sl true [.str, .str]], .str, .str, .sl true [.str, .str], .sl false [.int .i64], .sl false [.int .i64], .int .i64, .int .i64, .int .i64, .int .i64, .bool, .sl true [.int .i64, .int .i64, .int .i64], .sl true [.int .i64, .int .i64, .int .i64], .sl true [.int .i64, .str, .int .i64, .str, .int .i64, .sl true [.str, .str], .bool, .int .i64, .int .i64, .int .i64, .int .i64, .int .i64, .int .i64, .bool, .int .i64, .int .i64, .int .i64, .bool, .int .i64, .int .i64, .int .i64], .int .i64, .int .i64] x) : ∃ t : Told, x = (toldD t).cells ∧ t.small := by
  cases o with | int h0 t0 =>
  cases t0 with | int h1 t1 =>
  cases t1 with | int h2 t2 =>
  cases t2 with | bool t3 =>
  cases t3 with | int h4 t4 =>
  cases t4 with | str h5 t5 =>
  cases t5 with | int h6 t6 =>
  cases t6 with | str h7 t7 =>
  cases t7 with | int h8 t8 =>
  cases t8 with | sl hl9 h09 h19 h29 t9 =>
  cases t9 with | sl hl10 h010 h110 h210 t10 =>
  cases t10 with | str h11 t11 =>
  cases t11 with | str h12 t12 =>
  cases t12 with | sl hl13 h013 h113 h213 t13 =>
  cases t13 with | sl hl14 h014 h114 h214 t14 =>
  cases t14 with | sl hl15 h015 h115 h215 t15 =>
  cases t15 with | int h16 t16 =>
  cases t16 with | int h17 t17 =>
  cases t17 with | int h18 t18 =>
  cases t18 with | int h19 t19 =>
  cases t19 with | bool t20 =>
  cases t20 with | sl hl21 h021 h121 h221 t21 =>
  cases t21 with | sl hl22 h022 h122 h222 t22 =>
  cases t22 with | sl hl23 h023 h123 h223 t23 =>
  cases t23 with | int h24 t24 =>
  cases t24 with | int h25 t25 =>
  cases t25
  obtain ⟨ln, rfl⟩ := okl_intsE h114 h214
  obtain ⟨lm, rfl⟩ := okl_movesE h122 h222
  refine ⟨⟨_, _, _, _, _, _, _, _, _, _, _, _, _, _, _, _, _, _, ln, _, _, _, _, _, _, _, _, _, _, lm, _, _, _, _⟩, rfl, ?_⟩
  have b8 : lksB [LK.int .i64] = 8 := rfl
  have b24 : lksB [LK.int .i64, LK.int .i64, LK.int .i64] = 24 := rfl
  rw [b8, List.length_map, lim_val] at hl14
  rw [b24, List.length_map, lim_val] at hl22
  rw [b24, lim_val] at hl21
  exact ⟨by simp only; omega, by simp only; omega, by simp only; omega⟩
theorem watchNil_law {x0 : List D} (o0 : OkL reachBytes [.int .i64, .int .i64, .int .i64, .bool, .int .i64, .str, .int .i64, .str, .int .i64, .sl true [.str, .str], .sl true [.int .i64, .str, .int .i64, .str, .int .i64, .sl true [.str, .str]], .str, .str, .sl true [.str, .str], .sl false [.int .i64], .sl false [.int .i64], .int .i64, .int .i64, .int .i64, .int .i64, .bool, .sl true [.int .i64, .int .i64, .int .i64], .sl true [.int .i64, .int .i64, .int .i64], .sl true [.int .i64, .str, .int .i64, .str, .int .i64, .sl true [.str, .str], .bool, .int .i64, .int .i64, .int .i64, .int .i64, .int .i64, .int .i64, .bool, .int .i64, .int .i64, .int .i64, .bool, .int .i64, .int .i64, .int .i64], .int .i64, .int .i64] x0) : DataFun Try.prog 11 [vOf true x0] (.bool true) := by
  obtain ⟨t, rfl, ht⟩ := toldL_of o0
  exact dataFun0 (C := wCfg wnC [] []) (ctrs_ok wnC rfl rfl) rfl Try.func11 (by kernel_rfl) (by kernel_rfl) (by kernel_rfl) (by kernel_rfl) (by kernel_rfl) (wnN t ht)
end Go.Proofs.Ythnaloeipilmdaa.Dv
