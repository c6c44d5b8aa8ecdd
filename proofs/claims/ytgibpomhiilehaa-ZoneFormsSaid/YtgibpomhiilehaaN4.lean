/- zone.counts, by reference. -/
import Derived.Test.YtgibpomhiilehaaN3
import Derived.Test.YtgibpomhiilehaaN2
import Derived.Test.YtgibpomhiilehaaNT
set_option linter.unusedVariables false
set_option linter.unusedSimpArgs false
namespace Go.Proofs.Ytgibpomhiilehaa.Dv
open Go Go.Proofs
def cntZ (names : List ByteArray) (l : List Stat) : List Int := names.map fun z => ((keptZ z l).length : Int)
theorem cntZ_nil (names : List ByteArray) : cntZ names [] = List.replicate names.length 0 := by
  unfold cntZ
  rw [List.eq_replicate_iff]
  refine ⟨List.length_map .., fun x hx => ?_⟩
  obtain ⟨z, _, rfl⟩ := List.mem_map.1 hx
  rfl
theorem cntZ_snoc {names : List ByteArray} (h : Srt names) (l : List Stat) {t : Stat} (ht : t.zone ∈ names) : ∃ x : Int, (cntZ names l)[posB t.zone names]? = some x ∧ x = (keptZ t.zone l).length ∧ (cntZ names l).set (posB t.zone names) (x + 1) = cntZ names (l ++ [t]) := by
  obtain ⟨A, B, e, e1, e2, e3, e4⟩ := srt_split t.zone h
  obtain ⟨B', rfl⟩ : ∃ B', B = t.zone :: B' := by
    have := e4.1 ht
    cases B with
    | nil => cases this
    | cons b B => rw [List.head?_cons, Option.some.injEq] at this; exact ⟨B, by rw [this]⟩
  have hne : ∀ z ∈ names, z ≠ t.zone → keptZ z (l ++ [t]) = keptZ z l := fun z _ hz => (keptZ_no (fun h => hz h.symm) l []).trans (List.append_nil _)
  have hA : ∀ z ∈ A, z ≠ t.zone := by rintro z hz rfl; have := e2 _ hz; rw [lessB_irrefl] at this; cases this
  have hB : ∀ z ∈ B', z ≠ t.zone := by
    rintro z hz rfl
    rw [e] at h
    have := (List.pairwise_cons.1 (List.pairwise_append.1 h).2.1).1 _ hz
    rw [lessB_irrefl] at this; cases this
  refine ⟨_, ?_, rfl, ?_⟩
  · unfold cntZ
    rw [← e1, e]
    simp
  · unfold cntZ
    rw [← e1, e, List.map_append, List.map_append, List.map_cons, List.map_cons]
    have hs : ∀ (a b : List Int) (x y : Int) (n : Nat), a.length = n → (a ++ x :: b).set n y = a ++ y :: b := by rintro a b x y _ rfl; exact set_mid a x y b
    rw [hs _ _ _ _ _ (List.length_map ..)]
    have hk : (keptZ t.zone (l ++ [t])).length = (keptZ t.zone l).length + 1 := by rw [keptZ_yes rfl l []]; simp [keptZ]
    congr 1
    · refine List.map_congr_left fun z hz => ?_
      rw [hne z (by rw [e]; exact List.mem_append_left _ hz) (hA z hz)]
    · congr 1
      · rw [hk]; omega
      · refine List.map_congr_left fun z hz => ?_
        rw [hne z (by rw [e]; exact List.mem_append_right _ (List.mem_cons_of_mem _ hz)) (hB z hz)]
def ctL (f g : Bool) (names : List ByteArray) (all : List Stat) : WLoop :=
  { St := List Stat × List Stat
    O := Unit
    T := fun s => [(1, .sl g (names.map strD)), (5, .ms 0 0 names.length names.length true), (13, .sl f (all.map statD)), (14, .int .i64 (all.map statD).length), (15, .int .i64 s.1.length)]
    S := fun s => [some (.row .own 1 ((cntZ names s.1).map iD))]
    ok := fun s => s.1 ++ s.2 = all ∧ all.length ≤ 1000 ∧ Srt names ∧ names.length ≤ 1000 ∧ ∀ t ∈ s.2, t.zone ∈ names
    μ := fun s => s.2.length
    m := fun _ => ()
    src := [(0, true)]
    outs := [{ α := Unit, is := fun _ _ => True, ex := .exit 0, src := [(0, true)], T := fun _ => [(5, .ms 0 0 names.length names.length true)], S := fun _ => [some (.row .own 1 ((cntZ names all).map iD))] }] }
theorem ctR (f g : Bool) (names : List ByteArray) (all : List Stat) (s : (ctL f g names all).St) (hs : (ctL f g names all).ok s) : Tri Try.prog 0 35 (lp Try.f49 3) (tb ((ctL f g names all).T s)) ((ctL f g names all).S s) ((ctL f g names all).q 0 s) := by
  obtain ⟨a, r⟩ := s
  obtain ⟨h1, h2, h3, h4, h5⟩ := hs
  simp only at h1 h5
  cases r with
  | nil =>
    rw [List.append_nil] at h1
    subst h1
    refine round0 (C := nCfg 0 [bsC] [] [(16, .f)]) (ctrs_ok ([bsC]) rfl rfl) (by kernel_rfl) (by kernel_rfl) (q := decide ((↑a.length : Int) < (↑(List.map statD a).length : Int)) = false ∧ ∃ (a_1 : Unit), True ∧ D.ms (0 : Nat) (0 : Nat) names.length names.length true = D.ms (0 : Nat) (0 : Nat) names.length names.length true ∧ (some (Ob.row St.own (1 : Nat) (List.map iD (cntZ names a))) = none ∨ some (Ob.row St.own (1 : Nat) (List.map iD (cntZ names a))) = some (Ob.row St.own (1 : Nat) (List.map iD (cntZ names a))) ∧ (List.map iD (cntZ names a)).all D.pure = true)) (by kernel_rfl) ?_
    exact ⟨by simp, (), trivial, by trivial, .inr ⟨rfl, pure_iD _⟩⟩
  | cons t r =>
    refine round0 (C := nCfg 0 [bsC] [] [(16, .t)]) (ctrs_ok ([bsC]) rfl rfl) (by kernel_rfl) (by kernel_rfl) (q := decide ((↑a.length : Int) < (↑(List.map statD all).length : Int)) = true ∧ ∃ (y : Stat), (0 : Int) ≤ (↑a.length : Int) ∧ (List.map statD all)[(↑a.length : Int).toNat]? = some (D.agg [D.int IntKind.i64 y.id, D.str y.addr, D.int IntKind.i64 y.prio, D.str y.zone, D.int IntKind.i64 y.w, D.sl y.f (List.map pairD y.mt), D.bool y.up, D.int IntKind.i64 y.run, D.int IntKind.i64 y.forced, D.int IntKind.i64 y.wait, D.int IntKind.i64 y.errors, D.int IntKind.i64 y.bok, D.int IntKind.i64 y.ball, D.bool y.out, D.int IntKind.i64 y.frm, D.int IntKind.i64 y.till, D.int IntKind.i64 y.times, D.bool y.drains, D.int IntKind.i64 y.gone, D.int IntKind.i64 y.since, D.int IntKind.i64 y.active]) ∧ (∃ (l : List ByteArray), List.map strD names = List.map strD l ∧ l.length ≤ (1000 : Nat) ∧ List.Pairwise (fun (a b : ByteArray) => lessB a b = true) l) ∧ (0 : Int) ≤ (↑(posB y.zone (List.map dStr (List.map strD names))) : Int) ∧ (↑(posB y.zone (List.map dStr (List.map strD names))) : Int) < (↑names.length : Int) ∧ ∃ (x : Int), (List.map iD (cntZ names a))[(0 : Nat) + (↑(posB y.zone (List.map dStr (List.map strD names))) : Int).toNat]? = some (D.int IntKind.i64 x) ∧ inK IntKind.i64 (x + (1 : Int)) ∧ (0 : Int) ≤ (↑(posB y.zone (List.map dStr (List.map strD names))) : Int) ∧ (↑(posB y.zone (List.map dStr (List.map strD names))) : Int) < (↑names.length : Int) ∧ ∃ (x_1 : Int), (List.map iD (cntZ names a))[(0 : Nat) + (↑(posB y.zone (List.map dStr (List.map strD names))) : Int).toNat]? = some (D.int IntKind.i64 x_1) ∧ inK IntKind.i64 ((↑a.length : Int) + (1 : Int)) ∧ ∃ (s' : List Stat × List Stat), (s'.fst ++ s'.snd = all ∧ all.length ≤ (1000 : Nat) ∧ List.Pairwise (fun (a b : ByteArray) => lessB a b = true) names ∧ names.length ≤ (1000 : Nat) ∧ ∀ (t : Stat), List.Mem t s'.snd → List.Mem t.zone names) ∧ s'.snd.length.succ ≤ (t :: r).length ∧ () = () ∧ (D.sl g (List.map strD names) = D.sl g (List.map strD names) ∧ D.ms (0 : Nat) (0 : Nat) names.length names.length true = D.ms (0 : Nat) (0 : Nat) names.length names.length true ∧ D.sl f (List.map statD all) = D.sl f (List.map statD all) ∧ D.int IntKind.i64 (↑(List.map statD all).length : Int) = D.int IntKind.i64 (↑(List.map statD all).length : Int) ∧ D.int IntKind.i64 (↑s'.fst.length : Int) = D.int IntKind.i64 ((↑a.length : Int) + (1 : Int))) ∧ (some (Ob.row St.own (1 : Nat) (List.map iD (cntZ names s'.fst))) = none ∨ some (Ob.row St.own (1 : Nat) (List.map iD (cntZ names s'.fst))) = some (Ob.row St.own (1 : Nat) ((List.map iD (cntZ names a)).set ((0 : Nat) + (↑(posB y.zone (List.map dStr (List.map strD names))) : Int).toNat) (D.int IntKind.i64 (x + (1 : Int))))) ∧ ((List.map iD (cntZ names a)).set ((0 : Nat) + (↑(posB y.zone (List.map dStr (List.map strD names))) : Int).toNat) (D.int IntKind.i64 (x + (1 : Int)))).all D.pure = true)) (by kernel_rfl) ?_
    have hl : a.length + (r.length + 1) ≤ 1000 := by rw [← h1] at h2; simpa using h2
    have hall : (a ++ [t]) ++ r = all := by rw [← h1]; simp
    have hg : (List.map statD all)[((a.length : Int)).toNat]? = some (statD t) := by rw [← h1]; exact get_midI statD a t r
    have hll : ((a.length : Int) < ((List.map statD all).length : Int)) := by rw [← h1]; simp; omega
    have hix : D.int .i64 ((a ++ [t]).length : Int) = D.int .i64 ((a.length : Int) + 1) := by simp
    have hin : inK .i64 ((a.length : Int) + 1) := by simp only [inK]; omega
    have ht := h5 t (List.mem_cons_self ..)
    obtain ⟨x, k1, k2, k3⟩ := cntZ_snoc h3 a ht
    have hpl : posB t.zone names < names.length := by
      have := (List.getElem?_eq_some_iff.1 k1).1
      unfold cntZ at this
      rwa [List.length_map] at this
    have hxl : (keptZ t.zone a).length ≤ a.length := List.length_filter_le ..
    have hget : (List.map iD (cntZ names a))[0 + ((posB t.zone names : Nat) : Int).toNat]? = some (iD x) := by
      rw [Nat.zero_add, Int.toNat_natCast, List.getElem?_map, k1]; rfl
    have hset : (List.map iD (cntZ names a)).set (0 + ((posB t.zone names : Nat) : Int).toNat) (iD (x + 1)) = List.map iD (cntZ names (a ++ [t])) := by
      rw [Nat.zero_add, Int.toNat_natCast, ← List.map_set, k3]
    rw [map_dStr]
    refine ⟨decide_eq_true hll, t, by omega, hg, ⟨names, rfl, h4, h3⟩, by omega, by omega, x, hget, by simp only [inK]; omega, by omega, by omega, x, hget, hin, (a ++ [t], r), ⟨hall, h2, h3, h4, fun u hu => h5 u (List.mem_cons_of_mem _ hu)⟩, Nat.le_refl _, rfl, ?_, .inr ⟨?_, ?_⟩⟩
    · repeat' apply And.intro
      all_goals first
        | rfl
        | exact hix
    · exact congrArg (fun z => some (Ob.row .own 1 z)) hset.symm
    · exact hset ▸ pure_iD _
/-- What is gathered in an empty store is gathered behind any. -/
theorem gather_any {f : FuncId} {esz n m : Nat} {ex : Bool} {args : List D} {ys : List D} (ha : args.map (ren (asSrc [])) = args) (h : RefFun Try.prog f args [] (.ms 0 0 n m ex) [some (.row .own esz ys)]) (hq : ys.all D.pure = true) (σ : Store) : RefFun Try.prog f args σ (.ms σ.length 0 n m ex) (σ ++ [some (.row .own esz ys)]) := by
  have hsub : SubSt [] σ [] := ⟨rfl, by simp, fun k id hk => by simp at hk⟩
  have hb : BackSt [] [0] σ [some (.row .own esz ys)] (σ ++ [some (.row .own esz ys)]) := by
    refine ⟨by simp, by simp, by simp, fun k hk => ?_, fun id hid _ => obj_app_lt hid, fun k id hk => by simp at hk, fun j k hk => ?_⟩
    · have : k = 0 := by simpa using hk
      subst this
      refine ⟨by simp, fun o ho => ?_⟩
      injection ho with ho; exact ⟨_, _, ho.symm⟩
    · match j, hk with
      | 0, hk =>
        injection hk with hk; subst hk
        right
        exact ⟨_, _, _, _, rfl, by rw [Nat.add_zero]; exact obj_app_eq .., .inl ⟨rfl, hq⟩⟩
  have hf := RefFun.frame (args := args) hsub hb (by rw [ha]; exact h)
  have e4 : ren (asSrc (backL [] [0] σ.length)) (.ms 0 0 n m ex) = .ms σ.length 0 n m ex := by
    have : rid (asSrc (backL [] [0] σ.length)) 0 = some σ.length := by
      unfold rid
      rw [asSrc_fst]
      exact idx_back rfl (by simp) (by decide)
    simp only [ren, renLeaf, this]
  rw [e4] at hf
  exact hf
noncomputable def ctCfg (f g : Bool) (names : List ByteArray) (l : List Stat) : WCfg := { nCfg 0 [bsC] [] [] with loops := fun k => match k with | 3 => some ((ctL f g names l).row [(0, true)]) | _ => none }
theorem ctN (f g : Bool) (names : List ByteArray) (l : List Stat) (h1 : l.length ≤ 1000) (h2 : Srt names) (h3 : names.length ≤ 1000) (h4 : ∀ t ∈ l, t.zone ∈ names) : (0 : Int) ≤ (↑(List.map strD names).length : Int) ∧ (↑(List.map strD names).length : Int) ≤ (↑(List.map strD names).length : Int) ∧ (↑(List.map strD names).length : Int) * (8 : Int) ≤ (140737488355328 : Int) ∧ (↑(List.map strD names).length : Int) ≤ (140737488355328 : Int) ∧ ∃ (b : List Stat × List Stat), (b.fst ++ b.snd = l ∧ l.length ≤ (1000 : Nat) ∧ List.Pairwise (fun (a b : ByteArray) => lessB a b = true) names ∧ names.length ≤ (1000 : Nat) ∧ ∀ (t : Stat), List.Mem t b.snd → List.Mem t.zone names) ∧ ((D.sl g (List.map strD names) = D.sl g (List.map strD names) ∧ D.ms (0 : Nat) (0 : Nat) names.length names.length true = D.ms (0 : Nat) (0 : Nat) (↑(List.map strD names).length : Int).toNat (↑(List.map strD names).length : Int).toNat true ∧ D.sl f (List.map statD l) = D.sl f (List.map statD l) ∧ D.int IntKind.i64 (↑(List.map statD l).length : Int) = D.int IntKind.i64 (↑(List.map statD l).length : Int) ∧ D.int IntKind.i64 (↑b.fst.length : Int) = D.int IntKind.i64 (0 : Int)) ∧ (some (Ob.row St.own (1 : Nat) (List.map iD (cntZ names b.fst))) = none ∨ some (Ob.row St.own (1 : Nat) (List.map iD (cntZ names b.fst))) = some (Ob.row St.own (1 : Nat) (List.replicate (↑(List.map strD names).length : Int).toNat (D.int IntKind.i64 (0 : Int)))) ∧ (List.replicate (↑(List.map strD names).length : Int).toNat (D.int IntKind.i64 (0 : Int))).all D.pure = true)) ∧ ∀ (a : Unit), True → D.ms (0 : Nat) (0 : Nat) names.length names.length true = D.ms (0 : Nat) (0 : Nat) names.length names.length true ∧ (some (Ob.row St.own (1 : Nat) (List.map iD (cntZ names l))) = none ∨ some (Ob.row St.own (1 : Nat) (List.map iD (cntZ names l))) = some (Ob.row St.own (1 : Nat) (List.map iD (cntZ names l))) ∧ (List.map iD (cntZ names l)).all D.pure = true) := by
  rw [List.length_map, Int.toNat_natCast]
  refine ⟨by omega, by omega, by omega, by omega, ([], l), ⟨rfl, h1, h2, h3, h4⟩, ⟨?_, .inr ⟨?_, ?_⟩⟩, fun _ _ => ⟨rfl, .inr ⟨rfl, pure_iD _⟩⟩⟩
  · repeat' apply And.intro
    all_goals rfl
  · rw [cntZ_nil, List.map_replicate]; rfl
  · rw [List.all_eq_true]; intro x hx; rw [List.eq_of_mem_replicate hx]; rfl
def ctS (vs : List D) (σ : Store) : Option (Prop × D × Store) := match vs with
  | [.sl f xs, .sl g ys] => some (∃ (l : List Stat) (names : List ByteArray), xs = l.map statD ∧ ys = names.map strD ∧ l.length ≤ 1000 ∧ Srt names ∧ names.length ≤ 1000 ∧ ∀ t ∈ l, t.zone ∈ names, .ms σ.length 0 ys.length ys.length true, σ ++ [some (.row .own 1 ((cntZ (ys.map dStr) (xs.map dStat)).map iD))])
  | _ => none
/-- zone.counts: a row of one's own. -/
def ctC : RCtr := ⟨49, ctS, false, (by
  intro vs σ p r σ' h hp
  unfold ctS at h
  split at h
  · rename_i f xs g ys
    injection h with h; injection h with h4 h; injection h with h5 h6
    subst h4 h5 h6
    obtain ⟨l, names, rfl, rfl, h1, h2, h3, h4⟩ := hp
    rw [map_dStr, map_dStat, List.length_map]
    refine gather_any rfl (refFunW (C := ctCfg f g names l) (ctrs_ok [bsC] rfl rfl) [(0, true)] rfl Try.func49 (by kernel_rfl) (l := [lp Try.f49 3]) (by kernel_rfl) (fun x hx => ?_) (by kernel_rfl) (by kernel_rfl) (ctN f g names l h1 h2 h3 h4)) (pure_iD _) _
    rw [List.mem_singleton.1 hx]
    exact (ctL f g names l).fits 3 [(0, true)] (by kernel_rfl) rfl (ctR f g names l)
  · cases h), (fun h => by cases h)⟩
end Go.Proofs.Ytgibpomhiilehaa.Dv
