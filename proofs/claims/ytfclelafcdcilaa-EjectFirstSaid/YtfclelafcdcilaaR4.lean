/- Timers: how eject.First compares them; sorted; slices.SortedFunc. -/
import Derived.Test.YtfclelafcdcilaaR3
set_option linter.unusedVariables false
set_option linter.unusedSimpArgs false
namespace Go.Proofs.Ytfclelafcdcilaa.Dv
open Go Go.Proofs Go.Shelf
def dTm : D → Tm
  | .agg [.int _ a, .int _ b, .int _ c] => (a, b, c)
  | _ => (0, 0, 0)
theorem map_dTm (l : List Tm) : (l.map tmD).map dTm = l := by rw [List.map_map]; exact (List.map_congr_left fun x _ => rfl).trans (List.map_id l)
theorem pure_tmD (l : List Tm) : (l.map tmD).all D.pure = true := by rw [List.all_eq_true]; intro x hx; obtain ⟨n, _, rfl⟩ := List.mem_map.1 hx; rfl
theorem okEl_tmD (l : List Tm) : (l.map tmD).all (okEl 3) = true := by rw [List.all_eq_true]; intro x hx; obtain ⟨n, _, rfl⟩ := List.mem_map.1 hx; rfl
theorem inkQ {x : Int} (h : -9223372036854775808 ≤ x ∧ x ≤ 9223372036854775807) : inK .i64 x := h
def codsT : TypeId → Option Codec
  | 3 => some ⟨Int, iD⟩
  | 4 => some ⟨Bool, fun b => .bool b⟩
  | 75 => some ⟨Tm, tmD⟩
  | _ => none
def tCf (n0 : Nat) (l : List Ctr) (m : List RCtr) (h : List (Nat × Hn)) : WCfg := { spec := specOf l, bspec := bspecOf m, byref := byrefOf m, ro := roOf m, cod := codsT, H := hints h, n0 := n0 }
def cI (a b : Int) : Int := if a < b then -1 else if b < a then 1 else 0
theorem nanN' (a : Int) : D.bool (decide (a ≠ a)) = D.bool false := by
  simp
def nanC' : Ctr := ⟨65, fun vs => match vs with | [.int .i64 a] => some ⟨True, .bool false⟩ | _ => none, by
  intro vs o ho hp
  split at ho
  · rename_i a
    injection ho with ho; subst ho
    exact dataFun0 (C := tCf 0 [] [] []) (ctrsR_ok [] [] rfl rfl rfl rfl) rfl Try.func65 (by kernel_rfl) (by kernel_rfl) (by kernel_rfl) rfl (by kernel_rfl) (nanN' a)
  · cases ho⟩
theorem ciN (a b : Int) : True ∧ True ∧ (false = true → (false = true → D.int IntKind.i64 (0 : Int) = D.int IntKind.i64 (cI a b)) ∧ (false = false → D.int IntKind.i64 (-1 : Int) = D.int IntKind.i64 (cI a b))) ∧ (false = false → (false = true → D.int IntKind.i64 (1 : Int) = D.int IntKind.i64 (cI a b)) ∧ (false = false → (decide (a < b) = true → D.int IntKind.i64 (-1 : Int) = D.int IntKind.i64 (cI a b)) ∧ (decide (a < b) = false → (decide (b < a) = true → D.int IntKind.i64 (1 : Int) = D.int IntKind.i64 (cI a b)) ∧ (decide (b < a) = false → D.int IntKind.i64 (0 : Int) = D.int IntKind.i64 (cI a b))))) := by
  unfold cI
  refine ⟨trivial, trivial, fun h => (by cases h), fun _ => ⟨fun h => (by cases h), fun _ => ⟨fun h => ?_, fun h => ⟨fun h2 => ?_, fun h2 => ?_⟩⟩⟩⟩
  · rw [if_pos (of_decide_eq_true h)]
  · rw [if_neg (of_decide_eq_false h), if_pos (of_decide_eq_true h2)]
  · rw [if_neg (of_decide_eq_false h), if_neg (of_decide_eq_false h2)]
def ciC : Ctr := ⟨47, fun vs => match vs with | [.int .i64 a, .int .i64 b] => some ⟨True, .int .i64 (cI a b)⟩ | _ => none, by
  intro vs o ho hp
  split at ho
  · rename_i a b
    injection ho with ho; subst ho
    exact dataFun0 (C := tCf 0 [nanC'] [] []) (ctrsR_ok [nanC'] [] rfl rfl rfl rfl) rfl Try.func47 (by kernel_rfl) (by kernel_rfl) (by kernel_rfl) rfl (by kernel_rfl) (ciN a b)
  · cases ho⟩
noncomputable def orCf : WCfg := { tCf 0 [] [] [(9, .l)] with unr := fun k => if k = 3 then 3 else 0 }
theorem orN (f : Bool) (a b : Int) : ∃ (y : Int), (0 : Int) ≤ (0 : Int) ∧ some (D.int IntKind.i64 a) = some (D.int IntKind.i64 y) ∧ (decide (y ≠ (0 : Int)) = true → D.int IntKind.i64 y = D.int IntKind.i64 (if a ≠ (0 : Int) then a else b)) ∧ (decide (y ≠ (0 : Int)) = false → inK IntKind.i64 ((0 : Int) + (1 : Int)) ∧ ∃ (y : Int), (0 : Int) ≤ (0 : Int) + (1 : Int) ∧ some (D.int IntKind.i64 b) = some (D.int IntKind.i64 y) ∧ (decide (y ≠ (0 : Int)) = true → D.int IntKind.i64 y = D.int IntKind.i64 (if a ≠ (0 : Int) then a else b)) ∧ (decide (y ≠ (0 : Int)) = false → inK IntKind.i64 ((0 : Int) + (1 : Int) + (1 : Int)) ∧ D.int IntKind.i64 (0 : Int) = D.int IntKind.i64 (if a ≠ (0 : Int) then a else b))) := by
  refine ⟨a, by omega, rfl, fun h => ?_, fun h => ⟨inkQ (by omega), b, by omega, rfl, fun h2 => ?_, fun h2 => ⟨inkQ (by omega), ?_⟩⟩⟩
  · rw [if_pos (of_decide_eq_true h)]
  · rw [if_neg (of_decide_eq_false h)]
  · rw [if_neg (of_decide_eq_false h)]
    have : b = 0 := by simpa using of_decide_eq_false h2
    rw [this]
noncomputable def orC : Ctr := ⟨46, fun vs => match vs with | [.sl f [.int .i64 a, .int .i64 b]] => some ⟨True, .int .i64 (if a ≠ 0 then a else b)⟩ | _ => none, by
  intro vs o ho hp
  split at ho
  · rename_i f a b
    injection ho with ho; subst ho
    exact dataFun0 (C := orCf) (ctrsR_ok [] [] rfl rfl rfl rfl) rfl Try.func46 (by kernel_rfl) (by kernel_rfl) (by kernel_rfl) rfl (by kernel_rfl) (orN f a b)
  · cases ho⟩
def cT (p q : Tm) : Int := if cI p.1 q.1 ≠ 0 then cI p.1 q.1 else cI p.2.2 q.2.2
noncomputable def tmL : List Ctr := [ciC, orC]
theorem tmN (a b c a' b' c' : Int) : True ∧ True ∧ (2 : Nat) ≤ (2 : Nat) ∧ true = true ∧ True ∧ D.int IntKind.i64 (if cI a a' ≠ (0 : Int) then cI a a' else cI c c') = D.int IntKind.i64 (cT (a, b, c) (a', b', c')) := by
  exact ⟨trivial, trivial, Nat.le_refl _, rfl, trivial, rfl⟩
def ltT (p q : Tm) : Prop := p.1 < q.1 ∨ (p.1 = q.1 ∧ p.2.2 < q.2.2)
theorem cI_neg {a b : Int} : cI a b < 0 ↔ a < b := by
  unfold cI; split
  · omega
  · split <;> omega
theorem cI_zero {a b : Int} : cI a b = 0 ↔ a = b := by
  unfold cI; split
  · omega
  · split <;> omega
theorem ltOf_T (p q : Tm) : ltOf cT p q = true ↔ ltT p q := by
  unfold ltOf cT ltT
  rw [decide_eq_true_eq]
  by_cases h : cI p.1 q.1 = 0
  · rw [if_neg (by simpa using h), cI_neg]
    have := cI_zero.1 h
    omega
  · rw [if_pos h, cI_neg]
    have : ¬ p.1 = q.1 := fun e => h (cI_zero.2 e)
    omega
theorem ltOf_Tf (p q : Tm) : ltOf cT p q = false ↔ ¬ ltT p q := by rw [← ltOf_T, Bool.not_eq_true]
theorem swoT : Sort.SWO (ltOf cT) where
  irrefl x := by rw [ltOf_Tf]; unfold ltT; omega
  trans x y z h1 h2 := by rw [ltOf_T] at *; unfold ltT at *; omega
  ntrans x y z h1 h2 := by rw [ltOf_Tf] at *; unfold ltT at *; omega
def srtTim_ren : Go.Shelf.Ren := ⟨fun | 6 => 63 | 15 => 71 | 14 => 70 | 28 => 81 | 29 => 82 | 20 => 73 | 21 => 74 | 22 => 75 | 23 => 76 | 24 => 77 | 25 => 78 | 26 => 79 | 27 => 80 | 46 => 83 | 47 => 84 | 48 => 85 | 49 => 86 | 50 => 87 | 57 => 88 | n => n, fun | 22 => 45 | 24 => 75 | 25 => 81 | 3 => 3 | 39 => 105 | 0 => 0 | 53 => 122 | 55 => 33 | 4 => 4 | 46 => 116 | 45 => 115 | 50 => 94 | 5 => 5 | 9 => 9 | 66 => 123 | 70 => 89 | 76 => 128 | 77 => 129 | n => n, fun | n => n⟩
theorem srtTim : Go.Proofs.SlLaysF0.n6 Try.prog srtTim_ren := {
  mixed := by kernel_rfl
  f6 := ⟨Try.f63.name, by decide, Try.func63.trans (congrArg some (by kernel_rfl))⟩
  f14 := ⟨Try.f70.name, by decide, Try.func70.trans (congrArg some (by kernel_rfl))⟩
  f15 := Try.func71.trans (congrArg some (by kernel_rfl))
  f20 := ⟨Try.f73.name, by decide, Try.func73.trans (congrArg some (by kernel_rfl))⟩
  f21 := ⟨Try.f74.name, by decide, Try.func74.trans (congrArg some (by kernel_rfl))⟩
  f22 := ⟨Try.f75.name, by decide, Try.func75.trans (congrArg some (by kernel_rfl))⟩
  f23 := ⟨Try.f76.name, by decide, Try.func76.trans (congrArg some (by kernel_rfl))⟩
  f24 := ⟨Try.f77.name, by decide, Try.func77.trans (congrArg some (by kernel_rfl))⟩
  f25 := ⟨Try.f78.name, by decide, Try.func78.trans (congrArg some (by kernel_rfl))⟩
  f26 := ⟨Try.f79.name, by decide, Try.func79.trans (congrArg some (by kernel_rfl))⟩
  f27 := ⟨Try.f80.name, by decide, Try.func80.trans (congrArg some (by kernel_rfl))⟩
  f28 := Try.func81.trans (congrArg some (by kernel_rfl))
  f29 := Try.func82.trans (congrArg some (by kernel_rfl))
  f46 := ⟨Try.f83.name, by decide, Try.func83.trans (congrArg some (by kernel_rfl))⟩
  f47 := Try.func84.trans (congrArg some (by kernel_rfl))
  f48 := Try.func85.trans (congrArg some (by kernel_rfl))
  f49 := ⟨Try.f86.name, by decide, Try.func86.trans (congrArg some (by kernel_rfl))⟩
  f50 := ⟨Try.f87.name, by decide, Try.func87.trans (congrArg some (by kernel_rfl))⟩
  f57 := ⟨Try.f88.name, by decide, Try.func88.trans (congrArg some (by kernel_rfl))⟩
  t0 := Try.underlying0
  a0 := Try.isAgg0
  z0 := Try.sizeOf0
  v0 := Try.zeroValue0
  t3 := Try.underlying3
  a3 := Try.isAgg3
  z3 := Try.sizeOf3
  v3 := Try.zeroValue3
  t4 := Try.underlying4
  a4 := Try.isAgg4
  z4 := Try.sizeOf4
  v4 := Try.zeroValue4
  t5 := Try.underlying5
  a5 := Try.isAgg5
  z5 := Try.sizeOf5
  v5 := Try.zeroValue5
  t9 := Try.underlying9
  a9 := Try.isAgg9
  z9 := Try.sizeOf9
  v9 := Try.zeroValue9
  t22 := Try.underlying45
  a22 := Try.isAgg45
  z22 := Try.sizeOf45
  v22 := Try.zeroValue45
  t25 := Try.underlying81
  a25 := Try.isAgg81
  z25 := Try.sizeOf81
  v25 := Try.zeroValue81
  t39 := Try.underlying105
  a39 := Try.isAgg105
  z39 := Try.sizeOf105
  v39 := Try.zeroValue105
  t45 := Try.underlying115
  a45 := Try.isAgg115
  z45 := Try.sizeOf115
  v45 := Try.zeroValue115
  t46 := Try.underlying116
  a46 := Try.isAgg116
  z46 := Try.sizeOf116
  v46 := Try.zeroValue116
  t50 := Try.underlying94
  a50 := Try.isAgg94
  z50 := Try.sizeOf94
  v50 := Try.zeroValue94
  t53 := Try.underlying122
  a53 := Try.isAgg122
  z53 := Try.sizeOf122
  v53 := Try.zeroValue122
  t55 := Try.underlying33
  a55 := Try.isAgg33
  z55 := Try.sizeOf33
  v55 := Try.zeroValue33
  t66 := Try.underlying123
  a66 := Try.isAgg123
  z66 := Try.sizeOf123
  v66 := Try.zeroValue123
  t70 := Try.underlying89
  a70 := Try.isAgg89
  z70 := Try.sizeOf89
  v70 := Try.zeroValue89
  t76 := Try.underlying128
  a76 := Try.isAgg128
  z76 := Try.sizeOf128
  v76 := Try.zeroValue128
  t77 := Try.underlying129
  a77 := Try.isAgg129
  z77 := Try.sizeOf129
  v77 := Try.zeroValue129 }
theorem sortT_ref (l : List Tm) (hl : l ≠ []) (hm : l.length < 4611686018427387904) (cap : Nat) (ex : Bool) : RefFun Try.prog 63 [.ms 0 0 l.length cap ex, .fn 45 [] []] [some (.row .own 3 (l.map tmD))] (.tup []) [some (.row .own 3 ((srtV cT l).map tmD))] := by
  have hd : ∀ x y : Tm, DataFun Try.prog 45 [tmD x, tmD y] (.int .i64 (cT x y)) := fun x y =>
    dataFun0 (C := tCf 0 tmL [] []) (ctrsR_ok tmL [] rfl rfl rfl rfl) rfl Try.func45 (by kernel_rfl) (by kernel_rfl) (by kernel_rfl) rfl (by kernel_rfl) (tmN x.1 x.2.1 x.2.2 y.1 y.2.1 y.2.2)
  exact sort_ref elemT srtTim Try.isAgg75 Try.sizeOf75 cT swoT 45 (enters_of Try.func45 (by kernel_rfl) rfl)
    (cmp_calls (Enters.of Try.func45 (by kernel_rfl)) elemT cT hd (fun Γ W x => R1.agg.2 ⟨_, rfl, elemT.toR Γ W x, rfl⟩)) l hl hm cap ex
/-- A row is written anew. -/
theorem frame1 {f : FuncId} {args args0 : List D} {σ : Store} {id esz : Nat} {r r' : D} {xs ys : List D} (ho : σ.obj id = some (.row .own esz xs)) (hx : xs.all D.pure = true) (hy : ys.all D.pure = true) (hr : ∀ src, ren src r = r')
    (ha : args.map (ren (asSrc [id])) = args0) (h : RefFun Try.prog f args0 [some (.row .own esz xs)] r [some (.row .own esz ys)]) :
    RefFun Try.prog f args σ r' (σ.put id (some (.row .own esz ys))) := by
  have hlt := obj_lt ho
  have hsub : SubSt [id] σ [some (.row .own esz xs)] := ⟨rfl, by simp, fun k i hk => by
    match k, hk with
    | 0, hk => injection hk with hk; subst hk; exact ⟨.own, esz, _, _, ho, rfl, .inl ⟨rfl, hx⟩⟩⟩
  have hb : BackSt [id] [] σ [some (.row .own esz ys)] (σ.put id (some (.row .own esz ys))) := ⟨by simp [length_put], by simp, by simp, by simp, fun i _ hi => obj_put_ne (by simpa using hi) _, fun k i hk => by
    match k, hk with
    | 0, hk => injection hk with hk; subst hk; exact .inr ⟨.own, esz, _, _, rfl, obj_put_same hlt _, .inl ⟨rfl, hy⟩⟩, fun j k hk => by simp at hk⟩
  have hf := RefFun.frame (args := args) hsub hb (by rw [ha]; exact h)
  rw [hr] at hf
  exact hf
def spS (vs : List D) (σ : Store) : Option (Prop × D × Store) := match vs with
  | [.ms id 0 n cap ex, .fn 45 [] []] => match σ.obj id with
    | some (.row .own 3 xs) => some (xs ≠ [] ∧ n = xs.length ∧ n < 4611686018427387904 ∧ ∃ l : List Tm, xs = l.map tmD, .any, σ.put id (some (.row .own 3 ((srtV cT (xs.map dTm)).map tmD))))
    | _ => none
  | _ => none
/-- slices.SortFunc of timers. -/
noncomputable def spC : RCtr := ⟨63, spS, false, (by
  intro vs σ p r σ' h hp
  unfold spS at h
  split at h
  · rename_i id n cap ex
    split at h
    · rename_i xs ho
      injection h with h; injection h with e1 h; injection h with e2 e3
      subst e1 e2 e3
      obtain ⟨hne, hn, hm, l, rfl⟩ := hp
      rw [List.length_map] at hn
      subst hn
      rw [map_dTm]
      have h0 : rid (asSrc [id]) id = some 0 := by simp [rid, asSrc]
      refine frame1 ho (pure_tmD _) (pure_tmD _) (fun _ => rfl) ?_ (sortT_ref l (fun e => hne (by rw [e]; rfl)) hm cap ex)
      simp only [List.map_cons, List.map_nil, ren, renLeaf, h0]
    · cases h
  · cases h), (fun h => by cases h)⟩
theorem srt0_run : ((runN Try.prog M1 60).1 63 [.sl true [], .fn 45 [] []] []) = some (.tup [], []) := by kernel_rfl
def sp0C : Ctr := ⟨63, fun vs => match vs with | [.sl true [], .fn 45 [] []] => some ⟨True, .tup []⟩ | _ => none, by
  intro vs o ho hp
  split at ho
  · injection ho with ho; subst ho
    exact dataFun_run goodM primM mix 60 rfl (by rw [srt0_run]; rfl)
  · cases ho⟩
/-! ### the iterator, collected -/
def colS (vs : List D) (σ : Store) : Option (Prop × D × Store) := match vs with
  | [.fn 64 [] [.ptr b 0 0]] => match σ.obj b with
    | some (.row .own 1 [.sl f xs]) => some (xs ≠ [] ∧ (∃ l : List Tm, xs = l.map tmD) ∧ xs.length ≤ 100000, .ms σ.length 0 xs.length xs.length false, σ ++ [some (.row .own 3 xs)])
    | _ => none
  | _ => none
noncomputable def colC : RCtr := ⟨62, colS, false, (by
  intro vs σ p r σ' h hp
  unfold colS at h
  split at h
  · rename_i b
    split at h
    · rename_i f xs ho
      injection h with h; injection h with e1 h; injection h with e2 e3
      subst e1 e2 e3
      obtain ⟨h0, ⟨l, rfl⟩, hn⟩ := hp
      cases l with
      | nil => exact absurd rfl h0
      | cons y l =>
        have hlen : ((y :: l).map tmD).length = (y :: l).length := List.length_map ..
        rw [hlen] at hn ⊢
        exact collect_any (y :: l) hn f .own σ b ho
    · cases h
  · cases h), (fun h => by cases h)⟩
def colS0 (vs : List D) (σ : Store) : Option (Prop × D × Store) := match vs with
  | [.fn 64 [] [.ptr b 0 0]] => match σ.obj b with
    | some (.row .own 1 [.sl f xs]) => some (xs = [], .sl true [], σ)
    | _ => none
  | _ => none
noncomputable def colC0 : RCtr := ⟨62, colS0, false, (by
  intro vs σ p r σ' h hp
  unfold colS0 at h
  split at h
  · rename_i b
    split at h
    · rename_i f xs ho
      injection h with h; injection h with e1 h; injection h with e2 e3
      subst e1 e2 e3
      subst hp
      exact collect_any [] (by decide) f .own σ b ho
    · cases h
  · cases h), (fun h => by cases h)⟩
theorem vlN (f : Bool) (l : List Tm) : D.fn (64 : Nat) [] [D.ptr (0 : Nat) (0 : Nat) (0 : Nat)] = D.fn (64 : Nat) [] [D.ptr (0 : Nat) (0 : Nat) (0 : Nat)] ∧ (some (Ob.row St.own (1 : Nat) [D.sl f (List.map tmD l)]) = none ∨ some (Ob.row St.own (1 : Nat) [D.sl f (List.map tmD l)]) = some (Ob.row St.own (1 : Nat) [D.sl f (List.map tmD l)]) ∧ true = true) := by
  exact ⟨rfl, .inr ⟨rfl, rfl⟩⟩
def vlS (vs : List D) (σ : Store) : Option (Prop × D × Store) := match vs with
  | [.sl f xs] => some (∃ l : List Tm, xs = l.map tmD, .fn 64 [] [.ptr σ.length 0 0], σ ++ [some (.row .own 1 [.sl f xs])])
  | _ => none
noncomputable def vlC : RCtr := ⟨44, vlS, false, (by
  intro vs σ p r σ' h hp
  unfold vlS at h
  split at h
  · rename_i f xs
    injection h with h; injection h with e1 h; injection h with e2 e3
    subst e1 e2 e3
    obtain ⟨l, rfl⟩ := hp
    have hb : BackSt [] [0] σ [some (.row .own 1 [.sl f (l.map tmD)])] (σ ++ [some (.row .own 1 [.sl f (l.map tmD)])]) := by
      refine ⟨by simp, by simp, by simp, fun k hk => ?_, fun id hid _ => obj_app_lt hid, fun k id hk => by simp at hk, fun j k hk => ?_⟩
      · have : k = 0 := by simpa using hk
        subst this
        refine ⟨by simp, fun o ho => ?_⟩
        injection ho with ho; exact ⟨_, _, ho.symm⟩
      · match j, hk with
        | 0, hk =>
          injection hk with hk; subst hk
          right
          exact ⟨_, _, _, _, rfl, by rw [Nat.add_zero]; exact obj_app_eq .., .inl ⟨rfl, rfl⟩⟩
    have hf := RefFun.frame (fp := []) (σs := []) (args := [.sl f (l.map tmD)]) ⟨rfl, by simp, fun k id hk => by simp at hk⟩ hb (rs := .fn 64 [] [.ptr 0 0 0])
      (refFunW (C := tCf 0 [] [] []) (ctrsR_ok [] [] rfl rfl rfl rfl) [(0, true)] rfl Try.func44 (by kernel_rfl) (l := []) (by kernel_rfl) (fun x hx => by cases hx) (by kernel_rfl) (by kernel_rfl) (vlN f l))
    have e4 : ren (asSrc (backL [] [0] σ.length)) (.fn 64 [] [.ptr 0 0 0]) = .fn 64 [] [.ptr σ.length 0 0] := by
      have : rid (asSrc (backL [] [0] σ.length)) 0 = some σ.length := by
        unfold rid
        rw [asSrc_fst]
        exact idx_back rfl (by simp) (by decide)
      simp only [ren, List.map_cons, List.map_nil, renLeaf, this]
    rw [e4] at hf
    exact hf
  · cases h), (fun h => by cases h)⟩
theorem sdN (f : Bool) (y : Tm) (l : List Tm) (h : (y :: l).length ≤ 100000) : ((List.map tmD (y :: l) = [] → False) ∧ (∃ (l_1 : List Tm), List.map tmD (y :: l) = List.map tmD l_1) ∧ (List.map tmD (y :: l)).length ≤ (100000 : Nat)) ∧ ((List.map tmD (y :: l) = [] → False) ∧ (List.map tmD (y :: l)).length = (List.map tmD (y :: l)).length ∧ (List.map tmD (y :: l)).length.succ ≤ (4611686018427387904 : Nat) ∧ ∃ (l_1 : List Tm), List.map tmD (y :: l) = List.map tmD l_1) ∧ D.ms (1 : Nat) (0 : Nat) (List.map tmD (y :: l)).length (List.map tmD (y :: l)).length false = D.ms (1 : Nat) (0 : Nat) (List.map tmD (y :: l)).length (List.map tmD (y :: l)).length false ∧ (some (Ob.row St.own (1 : Nat) [D.sl f (List.map tmD (y :: l))]) = none ∨ some (Ob.row St.own (1 : Nat) [D.sl f (List.map tmD (y :: l))]) = some (Ob.row St.own (1 : Nat) [D.sl f (List.map tmD (y :: l))]) ∧ true = true) ∧ (some (Ob.row St.own (3 : Nat) (List.map tmD (srtV cT (y :: l)))) = none ∨ some (Ob.row St.own (3 : Nat) (List.map tmD (srtV cT (y :: l)))) = some (Ob.row St.own (3 : Nat) (List.map tmD (srtV cT (List.map dTm (List.map tmD (y :: l)))))) ∧ (List.map tmD (srtV cT (List.map dTm (List.map tmD (y :: l))))).all D.pure = true) := by
  rw [map_dTm]
  have hl : (List.map tmD (y :: l)).length = (y :: l).length := List.length_map ..
  exact ⟨⟨(fun h => by cases h), ⟨_, rfl⟩, by omega⟩, ⟨(fun h => by cases h), rfl, by omega, ⟨_, rfl⟩⟩, rfl, .inr ⟨rfl, rfl⟩, .inr ⟨rfl, pure_tmD _⟩⟩
theorem sdN0 (f : Bool) : nilT D = [] ∧ True ∧ D.sl true [] = D.sl true [] ∧ (some (Ob.row St.own (1 : Nat) [D.sl f []]) = none ∨ some (Ob.row St.own (1 : Nat) [D.sl f []]) = some (Ob.row St.own (1 : Nat) [D.sl f []]) ∧ true = true) := by
  exact ⟨rfl, trivial, rfl, .inr ⟨rfl, rfl⟩⟩
def sdS (vs : List D) (σ : Store) : Option (Prop × D × Store) := match vs with
  | [.fn 64 [] [.ptr b 0 0], .fn 45 [] []] => match σ.obj b with
    | some (.row .own 1 [.sl f xs]) => some (xs ≠ [] ∧ (∃ l : List Tm, xs = l.map tmD) ∧ xs.length ≤ 100000, .ms σ.length 0 xs.length xs.length false, σ ++ [some (.row .own 3 ((srtV cT (xs.map dTm)).map tmD))])
    | _ => none
  | _ => none
theorem ren_sd (b : Nat) : ([.fn 64 [] [.ptr b 0 0], .fn 45 [] []] : List D).map (ren (asSrc [b])) = [.fn 64 [] [.ptr 0 0 0], .fn 45 [] []] := by
  have h0 : rid (asSrc [b]) b = some 0 := by simp [rid, asSrc]
  simp only [List.map_cons, List.map_nil, ren, renLeaf, h0]
noncomputable def sdC : RCtr := ⟨43, sdS, false, (by
  intro vs σ p r σ' h hp
  unfold sdS at h
  split at h
  · rename_i b
    split at h
    · rename_i f xs ho
      injection h with h; injection h with e1 h; injection h with e2 e3
      subst e1 e2 e3
      obtain ⟨h0, ⟨l, rfl⟩, hn⟩ := hp
      cases l with
      | nil => exact absurd rfl h0
      | cons y l =>
        have hlen : ((y :: l).map tmD).length = (y :: l).length := List.length_map ..
        rw [map_dTm]
        have hlt := obj_lt ho
        have hsub : SubSt [b] σ [some (.row .own 1 [.sl f ((y :: l).map tmD)])] := ⟨rfl, by simp, fun q id hq => by
          match q, hq with
          | 0, hq => injection hq with hq; subst hq; exact ⟨.own, 1, _, _, ho, rfl, .inl ⟨rfl, rfl⟩⟩⟩
        have hb : BackSt [b] [1] σ [some (.row .own 1 [.sl f ((y :: l).map tmD)]), some (.row .own 3 ((srtV cT (y :: l)).map tmD))] (σ ++ [some (.row .own 3 ((srtV cT (y :: l)).map tmD))]) := by
          refine ⟨by simp, by simp, by simp, fun q hq => ?_, fun id hid _ => obj_app_lt hid, fun q id hq => ?_, fun q t hq => ?_⟩
          · have : q = 1 := by simpa using hq
            subst this
            refine ⟨by simp, fun o ho => ?_⟩
            injection ho with ho; exact ⟨_, _, ho.symm⟩
          · match q, hq with
            | 0, hq =>
              injection hq with hq; subst hq
              exact .inr ⟨.own, 1, _, _, rfl, by rw [obj_app_lt hlt]; exact ho, .inl ⟨rfl, rfl⟩⟩
          · match q, hq with
            | 0, hq =>
              injection hq with hq; subst hq
              exact .inr ⟨.own, 3, _, _, rfl, by rw [Nat.add_zero]; exact obj_app_eq .., .inl ⟨rfl, pure_tmD _⟩⟩
        have hf := RefFun.frame (args := [.fn 64 [] [.ptr b 0 0], .fn 45 [] []]) hsub hb (rs := .ms 1 0 ((y :: l).map tmD).length ((y :: l).map tmD).length false) (by
          rw [ren_sd]
          exact refFunW (C := tCf 1 [] [colC, spC] []) (ctrsR_ok [] [colC, spC] rfl rfl rfl rfl) [(0, true), (1, true)] rfl Try.func43 (by kernel_rfl) (l := []) (by kernel_rfl) (fun x hx => by cases hx) (by kernel_rfl) (by kernel_rfl) (sdN f y l (by omega)))
        have e4 : ren (asSrc (backL [b] [1] σ.length)) (.ms 1 0 ((y :: l).map tmD).length ((y :: l).map tmD).length false) = .ms σ.length 0 ((y :: l).map tmD).length ((y :: l).map tmD).length false := by
          have : rid (asSrc (backL [b] [1] σ.length)) 1 = some σ.length := by
            unfold rid
            rw [asSrc_fst]
            exact idx_back rfl (by simp [hlt]) (by decide)
          simp only [ren, renLeaf, this]
        rw [e4] at hf
        exact hf
    · cases h
  · cases h), (fun h => by cases h)⟩
def sdS0 (vs : List D) (σ : Store) : Option (Prop × D × Store) := match vs with
  | [.fn 64 [] [.ptr b 0 0], .fn 45 [] []] => match σ.obj b with
    | some (.row .own 1 [.sl f xs]) => some (xs = [], .sl true [], σ)
    | _ => none
  | _ => none
noncomputable def sdC0 : RCtr := ⟨43, sdS0, false, (by
  intro vs σ p r σ' h hp
  unfold sdS0 at h
  split at h
  · rename_i b
    split at h
    · rename_i f xs ho
      injection h with h; injection h with e1 h; injection h with e2 e3
      subst e1 e2 e3
      subst hp
      have hlt := obj_lt ho
      have hsub : SubSt [b] σ [some (.row .own 1 [.sl f []])] := ⟨rfl, by simp, fun q id hq => by
        match q, hq with
        | 0, hq => injection hq with hq; subst hq; exact ⟨.own, 1, _, _, ho, rfl, .inl ⟨rfl, rfl⟩⟩⟩
      have hb : BackSt [b] [] σ [some (.row .own 1 [.sl f []])] σ := by
        refine ⟨by simp, by simp, by simp, by simp, fun id _ _ => rfl, fun q id hq => ?_, fun q t hq => by simp at hq⟩
        match q, hq with
        | 0, hq =>
          injection hq with hq; subst hq
          exact .inr ⟨.own, 1, _, _, rfl, ho, .inl ⟨rfl, rfl⟩⟩
      have hf := RefFun.frame (args := [.fn 64 [] [.ptr b 0 0], .fn 45 [] []]) hsub hb (rs := .sl true []) (by
        rw [ren_sd]
        exact refFunW (C := tCf 1 [sp0C] [colC0] []) (ctrsR_ok [sp0C] [colC0] rfl rfl rfl rfl) [(0, true)] rfl Try.func43 (by kernel_rfl) (l := []) (by kernel_rfl) (fun x hx => by cases hx) (by kernel_rfl) (by kernel_rfl) (sdN0 f))
      exact hf
    · cases h
  · cases h), (fun h => by cases h)⟩
end Go.Proofs.Ytfclelafcdcilaa.Dv
