/- ZoneParts: each host is in one zone, in order. -/
import Derived.Test.YtgibpomhiilehaaM8
import Derived.Test.YtgibpomhiilehaaNT
set_option linter.unusedVariables false
set_option linter.unusedSimpArgs false
namespace Go.Proofs.Ytgibpomhiilehaa.Dv
open Go Go.Proofs
theorem keptZ_cp (nm : ByteArray) (l : List Stat) : keptZ nm (l.map Stat.cp) = (keptZ nm l).map Stat.cp := by
  unfold keptZ
  rw [List.filter_map]
  rfl
theorem keptZ_yes {nm : ByteArray} {t : Stat} (h : t.zone = nm) (a r : List Stat) : keptZ nm (a ++ t :: r) = keptZ nm a ++ t :: keptZ nm r := by
  unfold keptZ
  rw [List.filter_append, List.filter_cons_of_pos (by simp [h])]
theorem keptZ_no {nm : ByteArray} {t : Stat} (h : t.zone ≠ nm) (a r : List Stat) : keptZ nm (a ++ t :: r) = keptZ nm a ++ keptZ nm r := by
  unfold keptZ
  rw [List.filter_append, List.filter_cons_of_neg (by simp [h])]
noncomputable def zpC : List Ctr := [l16C, aw19, inC, sameOneC]
def zpL (f g : Bool) (own : ByteArray) (all : List Stat) : WLoop :=
  { St := List Stat × List Stat
    O := Unit
    T := fun s => [(1, .str own), (5, .sl g (((keptZ own all).map Stat.cp).map statD)), (6, .int .i64 (keptZ own s.1).length), (21, .sl f (all.map statD)), (22, .int .i64 (all.map statD).length), (23, .int .i64 s.1.length)]
    ok := fun s => s.1 ++ s.2 = all ∧ all.length ≤ 1000 ∧ ∀ t ∈ s.2, t.small
    μ := fun s => s.2.length
    m := fun _ => ()
    outs := [{ α := Unit, is := fun _ _ => True, ex := .exit 0, T := fun _ => [(5, .sl g (((keptZ own all).map Stat.cp).map statD)), (6, .int .i64 (keptZ own all).length)] }] }
theorem zpR (f g : Bool) (own : ByteArray) (all : List Stat) (s : (zpL f g own all).St) (hs : (zpL f g own all).ok s) : Tri Try.prog 0 55 (lp Try.f7 6) (tb ((zpL f g own all).T s)) ((zpL f g own all).S s) ((zpL f g own all).q 0 s) := by
  obtain ⟨a, r⟩ := s
  obtain ⟨h1, h2, h3⟩ := hs
  simp only at h1 h3
  cases r with
  | nil =>
    rw [List.append_nil] at h1
    subst h1
    refine round0 (C := jCfg zpC [(24, .f)]) (ctrs_ok (zpC) rfl rfl) (by kernel_rfl) (by kernel_rfl) (q := decide ((↑a.length : Int) < (↑(List.map statD a).length : Int)) = false ∧ ∃ (a_1 : Unit), True ∧ D.sl g (List.map statD (List.map Stat.cp (keptZ own a))) = D.sl g (List.map statD (List.map Stat.cp (keptZ own a))) ∧ D.int IntKind.i64 (↑(keptZ own a).length : Int) = D.int IntKind.i64 (↑(keptZ own a).length : Int)) (by kernel_rfl) ?_
    exact ⟨by simp, (), trivial, by trivial⟩
  | cons t r =>
    refine round0 (C := jCfg zpC [(24, .t)]) (ctrs_ok (zpC) rfl rfl) (by kernel_rfl) (by kernel_rfl) (q := decide ((↑a.length : Int) < (↑(List.map statD all).length : Int)) = true ∧ ∃ (y : Stat), (0 : Int) ≤ (↑a.length : Int) ∧ (List.map statD all)[(↑a.length : Int).toNat]? = some (D.agg [D.int IntKind.i64 y.id, D.str y.addr, D.int IntKind.i64 y.prio, D.str y.zone, D.int IntKind.i64 y.w, D.sl y.f (List.map pairD y.mt), D.bool y.up, D.int IntKind.i64 y.run, D.int IntKind.i64 y.forced, D.int IntKind.i64 y.wait, D.int IntKind.i64 y.errors, D.int IntKind.i64 y.bok, D.int IntKind.i64 y.ball, D.bool y.out, D.int IntKind.i64 y.frm, D.int IntKind.i64 y.till, D.int IntKind.i64 y.times, D.bool y.drains, D.int IntKind.i64 y.gone, D.int IntKind.i64 y.since, D.int IntKind.i64 y.active]) ∧ (decide (y.zone ≠ own) = true → inK IntKind.i64 ((↑a.length : Int) + (1 : Int)) ∧ ∃ (s' : List Stat × List Stat), (s'.fst ++ s'.snd = all ∧ all.length ≤ (1000 : Nat) ∧ ∀ (t : Stat), List.Mem t s'.snd → t.small) ∧ s'.snd.length.succ ≤ (t :: r).length ∧ () = () ∧ D.str own = D.str own ∧ D.sl g (List.map statD (List.map Stat.cp (keptZ own all))) = D.sl g (List.map statD (List.map Stat.cp (keptZ own all))) ∧ D.int IntKind.i64 (↑(keptZ own s'.fst).length : Int) = D.int IntKind.i64 (↑(keptZ own a).length : Int) ∧ D.sl f (List.map statD all) = D.sl f (List.map statD all) ∧ D.int IntKind.i64 (↑(List.map statD all).length : Int) = D.int IntKind.i64 (↑(List.map statD all).length : Int) ∧ D.int IntKind.i64 (↑s'.fst.length : Int) = D.int IntKind.i64 ((↑a.length : Int) + (1 : Int))) ∧ (decide (y.zone ≠ own) = false → (decide ((↑(List.map statD (List.map Stat.cp (keptZ own all))).length : Int) ≤ (↑(keptZ own a).length : Int)) = true → False) ∧ (decide ((↑(List.map statD (List.map Stat.cp (keptZ own all))).length : Int) ≤ (↑(keptZ own a).length : Int)) = false → ∃ (y_1 : Stat), (0 : Int) ≤ (↑(keptZ own a).length : Int) ∧ (List.map statD (List.map Stat.cp (keptZ own all)))[(↑(keptZ own a).length : Int).toNat]? = some (D.agg [D.int IntKind.i64 y_1.id, D.str y_1.addr, D.int IntKind.i64 y_1.prio, D.str y_1.zone, D.int IntKind.i64 y_1.w, D.sl y_1.f (List.map pairD y_1.mt), D.bool y_1.up, D.int IntKind.i64 y_1.run, D.int IntKind.i64 y_1.forced, D.int IntKind.i64 y_1.wait, D.int IntKind.i64 y_1.errors, D.int IntKind.i64 y_1.bok, D.int IntKind.i64 y_1.ball, D.bool y_1.out, D.int IntKind.i64 y_1.frm, D.int IntKind.i64 y_1.till, D.int IntKind.i64 y_1.times, D.bool y_1.drains, D.int IntKind.i64 y_1.gone, D.int IntKind.i64 y_1.since, D.int IntKind.i64 y_1.active]) ∧ (∃ (t : Stat), ∃ (g : Bool), t.mt.length ≤ (4398046511104 : Nat) ∧ D.agg [D.int IntKind.i64 y_1.id, D.str y_1.addr, D.int IntKind.i64 y_1.prio, D.str y_1.zone, D.int IntKind.i64 y_1.w, D.sl y_1.f (List.map pairD y_1.mt), D.bool y_1.up, D.int IntKind.i64 y_1.run, D.int IntKind.i64 y_1.forced, D.int IntKind.i64 y_1.wait, D.int IntKind.i64 y_1.errors, D.int IntKind.i64 y_1.bok, D.int IntKind.i64 y_1.ball, D.bool y_1.out, D.int IntKind.i64 y_1.frm, D.int IntKind.i64 y_1.till, D.int IntKind.i64 y_1.times, D.bool y_1.drains, D.int IntKind.i64 y_1.gone, D.int IntKind.i64 y_1.since, D.int IntKind.i64 y_1.active] = D.agg [D.int IntKind.i64 t.id, D.str t.addr, D.int IntKind.i64 t.prio, D.str t.zone, D.int IntKind.i64 t.w, D.sl t.f (List.map pairD t.mt), D.bool t.up, D.int IntKind.i64 t.run, D.int IntKind.i64 t.forced, D.int IntKind.i64 t.wait, D.int IntKind.i64 t.errors, D.int IntKind.i64 t.bok, D.int IntKind.i64 t.ball, D.bool t.out, D.int IntKind.i64 t.frm, D.int IntKind.i64 t.till, D.int IntKind.i64 t.times, D.bool t.drains, D.int IntKind.i64 t.gone, D.int IntKind.i64 t.since, D.int IntKind.i64 t.active] ∧ D.agg [D.int IntKind.i64 y.id, D.str y.addr, D.int IntKind.i64 y.prio, D.str y.zone, D.int IntKind.i64 y.w, D.sl y.f (List.map pairD y.mt), D.bool y.up, D.int IntKind.i64 y.run, D.int IntKind.i64 y.forced, D.int IntKind.i64 y.wait, D.int IntKind.i64 y.errors, D.int IntKind.i64 y.bok, D.int IntKind.i64 y.ball, D.bool y.out, D.int IntKind.i64 y.frm, D.int IntKind.i64 y.till, D.int IntKind.i64 y.times, D.bool y.drains, D.int IntKind.i64 y.gone, D.int IntKind.i64 y.since, D.int IntKind.i64 y.active] = D.agg [D.int IntKind.i64 t.id, D.str t.addr, D.int IntKind.i64 t.prio, D.str t.zone, D.int IntKind.i64 t.w, D.sl g (List.map pairD t.mt), D.bool t.up, D.int IntKind.i64 t.run, D.int IntKind.i64 t.forced, D.int IntKind.i64 t.wait, D.int IntKind.i64 t.errors, D.int IntKind.i64 t.bok, D.int IntKind.i64 t.ball, D.bool t.out, D.int IntKind.i64 t.frm, D.int IntKind.i64 t.till, D.int IntKind.i64 t.times, D.bool t.drains, D.int IntKind.i64 t.gone, D.int IntKind.i64 t.since, D.int IntKind.i64 t.active]) ∧ (false = true → False) ∧ (false = false → inK IntKind.i64 ((↑(keptZ own a).length : Int) + (1 : Int)) ∧ inK IntKind.i64 ((↑a.length : Int) + (1 : Int)) ∧ ∃ (s' : List Stat × List Stat), (s'.fst ++ s'.snd = all ∧ all.length ≤ (1000 : Nat) ∧ ∀ (t : Stat), List.Mem t s'.snd → t.small) ∧ s'.snd.length.succ ≤ (t :: r).length ∧ () = () ∧ D.str own = D.str own ∧ D.sl g (List.map statD (List.map Stat.cp (keptZ own all))) = D.sl g (List.map statD (List.map Stat.cp (keptZ own all))) ∧ D.int IntKind.i64 (↑(keptZ own s'.fst).length : Int) = D.int IntKind.i64 ((↑(keptZ own a).length : Int) + (1 : Int)) ∧ D.sl f (List.map statD all) = D.sl f (List.map statD all) ∧ D.int IntKind.i64 (↑(List.map statD all).length : Int) = D.int IntKind.i64 (↑(List.map statD all).length : Int) ∧ D.int IntKind.i64 (↑s'.fst.length : Int) = D.int IntKind.i64 ((↑a.length : Int) + (1 : Int)))))) (by kernel_rfl) ?_
    have hl : a.length + (r.length + 1) ≤ 1000 := by rw [← h1] at h2; simpa using h2
    have ht := h3 t (List.mem_cons_self ..)
    have h3' : ∀ x ∈ r, x.small := fun x hx => h3 x (List.mem_cons_of_mem _ hx)
    have hg : (List.map statD all)[((a.length : Int)).toNat]? = some (statD t) := by rw [← h1]; exact get_midI statD a t r
    have hll : ((a.length : Int) < ((List.map statD all).length : Int)) := by rw [← h1]; simp; omega
    have hall : (a ++ [t]) ++ r = all := by rw [← h1]; simp
    have hix : D.int .i64 ((a ++ [t]).length : Int) = D.int .i64 ((a.length : Int) + 1) := by simp
    refine ⟨decide_eq_true hll, t, by omega, hg, fun hz => ?_, fun hz => ?_⟩
    · have hz := of_decide_eq_true hz
      have hk : keptZ own (a ++ [t]) = keptZ own a := (keptZ_no hz a []).trans (List.append_nil _)
      refine ⟨by simp only [inK]; omega, (a ++ [t], r), ⟨hall, h2, h3'⟩, Nat.le_refl _, rfl, ?_⟩
      repeat' apply And.intro
      all_goals first
        | rfl
        | exact hix
        | exact congrArg (fun z => D.int .i64 (z.length : Int)) hk
    · have hz : t.zone = own := by simpa using hz
      have hka : keptZ own all = keptZ own a ++ t :: keptZ own r := by rw [← h1]; exact keptZ_yes hz a r
      have hk : (keptZ own (a ++ [t])).length = (keptZ own a).length + 1 := by rw [keptZ_yes hz a []]; simp [keptZ]
      have hle : (keptZ own a).length ≤ a.length := List.length_filter_le ..
      have hg2 : (List.map statD (List.map Stat.cp (keptZ own all)))[(((keptZ own a).length : Int)).toNat]? = some (statD t.cp) := by
        rw [hka, List.map_append, List.map_append]
        rw [show ((keptZ own a).length : Int).toNat = (List.map statD (List.map Stat.cp (keptZ own a))).length by simp]
        simp
      refine ⟨fun h => ?_, fun _ => ⟨t.cp, by omega, hg2, ⟨t.cp, t.f, ht.2.2.1, rfl, rfl⟩, (fun h => by cases h), fun _ => ⟨by simp only [inK]; omega, by simp only [inK]; omega, (a ++ [t], r), ⟨hall, h2, h3'⟩, Nat.le_refl _, rfl, ?_⟩⟩⟩
      · have h := of_decide_eq_true h
        rw [hka] at h
        simp at h
        omega
      · repeat' apply And.intro
        all_goals first
          | rfl
          | exact hix
          | (simp only [hk]; rfl)
noncomputable def zpCfg (f g : Bool) (own : ByteArray) (all : List Stat) : WCfg := { jCfg zpC [] with loops := fun k => match k with | 6 => some ((zpL f g own all).row []) | _ => none }
theorem zpN (f : Bool) (own : ByteArray) (l : List Stat) (h1 : l.length ≤ 1000000000000) (h2 : ∀ t ∈ l, t.small) : (∃ (l_1 : List Stat), List.map statD l = List.map statD l_1 ∧ l_1.length ≤ (1000000000000 : Nat) ∧ ∀ (t : Stat), List.Mem t l_1 → t.small) ∧ (decide ((0 : Int) < lit16 (List.map dStat (List.map statD l)) (0 : Nat)) = true → True ∧ D.bool true = D.bool true) ∧ (decide ((0 : Int) < lit16 (List.map dStat (List.map statD l)) (0 : Nat)) = false → (decide ((100 : Int) < (↑own.size : Int)) = true → True ∧ D.bool true = D.bool true) ∧ (decide ((100 : Int) < (↑own.size : Int)) = false → (∃ (l_1 : List Stat), List.map statD l = List.map statD l_1 ∧ l_1.length ≤ (1000 : Nat) ∧ ∀ (u : Stat), List.Mem u l_1 → u.small) ∧ ∃ (b : List Stat × List Stat), (b.fst ++ b.snd = l ∧ l.length ≤ (1000 : Nat) ∧ ∀ (t : Stat), List.Mem t b.snd → t.small) ∧ (D.str own = D.str own ∧ D.sl (List.map statD l).isEmpty (List.map statD (List.map Stat.cp (keptZ own l))) = D.sl (List.map statD l).isEmpty (List.map statD (keptZ own (List.map Stat.cp (List.map dStat (List.map statD l))))) ∧ D.int IntKind.i64 (↑(keptZ own b.fst).length : Int) = D.int IntKind.i64 (0 : Int) ∧ D.sl f (List.map statD l) = D.sl f (List.map statD l) ∧ D.int IntKind.i64 (↑(List.map statD l).length : Int) = D.int IntKind.i64 (↑(List.map statD l).length : Int) ∧ D.int IntKind.i64 (↑b.fst.length : Int) = D.int IntKind.i64 (0 : Int)) ∧ ∀ (a : Unit), True → (decide ((↑(keptZ own l).length : Int) = (↑(List.map statD (List.map Stat.cp (keptZ own l))).length : Int)) = true → True ∧ D.bool true = D.bool true) ∧ (decide ((↑(keptZ own l).length : Int) = (↑(List.map statD (List.map Stat.cp (keptZ own l))).length : Int)) = false → D.bool false = D.bool true))) := by
  rw [map_dStat]
  refine ⟨⟨l, rfl, h1, h2⟩, fun _ => ⟨trivial, rfl⟩, fun h => ⟨fun _ => ⟨trivial, rfl⟩, fun _ => ?_⟩⟩
  have hl := lit16_len (l := l) (i := 0) (by omega) (of_decide_eq_false h)
  have hl : l.length ≤ 1000 := by omega
  refine ⟨⟨l, rfl, hl, h2⟩, ([], l), ⟨rfl, hl, h2⟩, ?_, fun _ _ => ⟨fun _ => ⟨trivial, rfl⟩, fun h => by simp at h⟩⟩
  rw [keptZ_cp]
  repeat' apply And.intro
  all_goals rfl
theorem zoneParts_law {x0 : List D} (o0 : OkL reachBytes [.sl true [.int .i64, .str, .int .i64, .str, .int .i64, .sl true [.str, .str], .bool, .int .i64, .int .i64, .int .i64, .int .i64, .int .i64, .int .i64, .bool, .int .i64, .int .i64, .int .i64, .bool, .int .i64, .int .i64, .int .i64]] x0) {x1 : List D} (o1 : OkL reachBytes [.str] x1) : DataFun Try.prog 7 [vOf false x0, vOf false x1] (.bool true) := by
  obtain ⟨f, l, rfl, h1, h2⟩ := okl1_stats o0
  cases o1 with | str g t =>
  cases t
  rename_i own
  refine dataFunL (C := zpCfg f (l.map statD).isEmpty own l) (ctrs_ok zpC rfl rfl) rfl Try.func7 (by kernel_rfl) (l := [lp Try.f7 6]) (by kernel_rfl) ?_ (by kernel_rfl) (by kernel_rfl) (by kernel_rfl) (zpN f own l h2 fun t ht => (h1 t ht).1)
  intro x hx
  rw [List.mem_singleton.1 hx]
  exact (zpL f _ own l).fits 6 [] (by kernel_rfl) rfl (zpR f _ own l)
end Go.Proofs.Ytgibpomhiilehaa.Dv
