/- Points on the ring: how they are compared, and sorted. -/
import Derived.Test.YtfclelafcdcilaaDoorQ2
import Derived.Test.YtfclelafcdcilaaDoorS1
set_option linter.unusedVariables false
set_option linter.unusedSimpArgs false
namespace Go.Proofs.YtfclelafcdcilaaDoor.Dv
open Go Go.Proofs Go.Shelf
abbrev Pt := Int × Int
def ptD (p : Pt) : D := .agg [.int .u64 p.1, .int .i64 p.2]
def dPt : D → Pt
  | .agg [.int _ a, .int _ b] => (a, b)
  | _ => (0, 0)
theorem map_dPt (l : List Pt) : (l.map ptD).map dPt = l := by rw [List.map_map]; exact (List.map_congr_left fun x _ => rfl).trans (List.map_id l)
theorem pure_ptD (l : List Pt) : (l.map ptD).all D.pure = true := by rw [List.all_eq_true]; intro x hx; obtain ⟨n, _, rfl⟩ := List.mem_map.1 hx; rfl
theorem okEl_ptD (l : List Pt) : (l.map ptD).all (okEl 2) = true := by rw [List.all_eq_true]; intro x hx; obtain ⟨n, _, rfl⟩ := List.mem_map.1 hx; rfl
def codsG : TypeId → Option Codec
  | 3 => some ⟨Int, iD⟩
  | 4 => some ⟨Bool, fun b => .bool b⟩
  | 36 => some ⟨Int, uD⟩
  | 47 => some ⟨ByteArray × ByteArray, pairQ⟩
  | 28 => some ⟨Hst, hstD⟩
  | 50 => some ⟨Pt, ptD⟩
  | _ => none
def gCf (n0 : Nat) (l : List Ctr) (m : List RCtr) (h : List (Nat × Hn)) : WCfg := { spec := specOf l, bspec := bspecOf m, byref := byrefOf m, ro := roOf m, cod := codsG, H := hints h, n0 := n0 }
def cI (a b : Int) : Int := if a < b then -1 else if b < a then 1 else 0
theorem nanN (a : Int) : D.bool (decide (a ≠ a)) = D.bool false := by
  simp
def nanC : Ctr := ⟨46, fun vs => match vs with | [.int .u64 a] => some ⟨True, .bool false⟩ | _ => none, by
  intro vs o ho hp
  split at ho
  · rename_i a
    injection ho with ho; subst ho
    exact dataFun0 (C := gCf 0 [] [] []) (ctrsR_ok [] [] rfl rfl rfl rfl) rfl Tryd.func46 (by kernel_rfl) (by kernel_rfl) (by kernel_rfl) rfl (by kernel_rfl) (nanN a)
  · cases ho⟩
theorem nanN' (a : Int) : D.bool (decide (a ≠ a)) = D.bool false := by
  simp
def nanC' : Ctr := ⟨47, fun vs => match vs with | [.int .i64 a] => some ⟨True, .bool false⟩ | _ => none, by
  intro vs o ho hp
  split at ho
  · rename_i a
    injection ho with ho; subst ho
    exact dataFun0 (C := gCf 0 [] [] []) (ctrsR_ok [] [] rfl rfl rfl rfl) rfl Tryd.func47 (by kernel_rfl) (by kernel_rfl) (by kernel_rfl) rfl (by kernel_rfl) (nanN' a)
  · cases ho⟩
theorem cuN (a b : Int) : True ∧ True ∧ (false = true → (false = true → D.int IntKind.i64 (0 : Int) = D.int IntKind.i64 (cI a b)) ∧ (false = false → D.int IntKind.i64 (-1 : Int) = D.int IntKind.i64 (cI a b))) ∧ (false = false → (false = true → D.int IntKind.i64 (1 : Int) = D.int IntKind.i64 (cI a b)) ∧ (false = false → (decide (a < b) = true → D.int IntKind.i64 (-1 : Int) = D.int IntKind.i64 (cI a b)) ∧ (decide (a < b) = false → (decide (b < a) = true → D.int IntKind.i64 (1 : Int) = D.int IntKind.i64 (cI a b)) ∧ (decide (b < a) = false → D.int IntKind.i64 (0 : Int) = D.int IntKind.i64 (cI a b))))) := by
  unfold cI
  refine ⟨trivial, trivial, fun h => (by cases h), fun _ => ⟨fun h => (by cases h), fun _ => ⟨fun h => ?_, fun h => ⟨fun h2 => ?_, fun h2 => ?_⟩⟩⟩⟩
  · rw [if_pos (of_decide_eq_true h)]
  · rw [if_neg (of_decide_eq_false h), if_pos (of_decide_eq_true h2)]
  · rw [if_neg (of_decide_eq_false h), if_neg (of_decide_eq_false h2)]
def cuC : Ctr := ⟨31, fun vs => match vs with | [.int .u64 a, .int .u64 b] => some ⟨True, .int .i64 (cI a b)⟩ | _ => none, by
  intro vs o ho hp
  split at ho
  · rename_i a b
    injection ho with ho; subst ho
    exact dataFun0 (C := gCf 0 [nanC] [] []) (ctrsR_ok [nanC] [] rfl rfl rfl rfl) rfl Tryd.func31 (by kernel_rfl) (by kernel_rfl) (by kernel_rfl) rfl (by kernel_rfl) (cuN a b)
  · cases ho⟩
theorem ciN (a b : Int) : True ∧ True ∧ (false = true → (false = true → D.int IntKind.i64 (0 : Int) = D.int IntKind.i64 (cI a b)) ∧ (false = false → D.int IntKind.i64 (-1 : Int) = D.int IntKind.i64 (cI a b))) ∧ (false = false → (false = true → D.int IntKind.i64 (1 : Int) = D.int IntKind.i64 (cI a b)) ∧ (false = false → (decide (a < b) = true → D.int IntKind.i64 (-1 : Int) = D.int IntKind.i64 (cI a b)) ∧ (decide (a < b) = false → (decide (b < a) = true → D.int IntKind.i64 (1 : Int) = D.int IntKind.i64 (cI a b)) ∧ (decide (b < a) = false → D.int IntKind.i64 (0 : Int) = D.int IntKind.i64 (cI a b))))) := by
  unfold cI
  refine ⟨trivial, trivial, fun h => (by cases h), fun _ => ⟨fun h => (by cases h), fun _ => ⟨fun h => ?_, fun h => ⟨fun h2 => ?_, fun h2 => ?_⟩⟩⟩⟩
  · rw [if_pos (of_decide_eq_true h)]
  · rw [if_neg (of_decide_eq_false h), if_pos (of_decide_eq_true h2)]
  · rw [if_neg (of_decide_eq_false h), if_neg (of_decide_eq_false h2)]
def ciC : Ctr := ⟨32, fun vs => match vs with | [.int .i64 a, .int .i64 b] => some ⟨True, .int .i64 (cI a b)⟩ | _ => none, by
  intro vs o ho hp
  split at ho
  · rename_i a b
    injection ho with ho; subst ho
    exact dataFun0 (C := gCf 0 [nanC'] [] []) (ctrsR_ok [nanC'] [] rfl rfl rfl rfl) rfl Tryd.func32 (by kernel_rfl) (by kernel_rfl) (by kernel_rfl) rfl (by kernel_rfl) (ciN a b)
  · cases ho⟩
noncomputable def orCf : WCfg := { gCf 0 [] [] [(9, .l)] with unr := fun k => if k = 3 then 3 else 0 }
theorem orN (f : Bool) (a b : Int) : ∃ (y : Int), (0 : Int) ≤ (0 : Int) ∧ some (D.int IntKind.i64 a) = some (D.int IntKind.i64 y) ∧ (decide (y ≠ (0 : Int)) = true → D.int IntKind.i64 y = D.int IntKind.i64 (if a ≠ (0 : Int) then a else b)) ∧ (decide (y ≠ (0 : Int)) = false → inK IntKind.i64 ((0 : Int) + (1 : Int)) ∧ ∃ (y : Int), (0 : Int) ≤ (0 : Int) + (1 : Int) ∧ some (D.int IntKind.i64 b) = some (D.int IntKind.i64 y) ∧ (decide (y ≠ (0 : Int)) = true → D.int IntKind.i64 y = D.int IntKind.i64 (if a ≠ (0 : Int) then a else b)) ∧ (decide (y ≠ (0 : Int)) = false → inK IntKind.i64 ((0 : Int) + (1 : Int) + (1 : Int)) ∧ D.int IntKind.i64 (0 : Int) = D.int IntKind.i64 (if a ≠ (0 : Int) then a else b))) := by
  refine ⟨a, by omega, rfl, fun h => ?_, fun h => ⟨inkQ (by omega), b, by omega, rfl, fun h2 => ?_, fun h2 => ⟨inkQ (by omega), ?_⟩⟩⟩
  · rw [if_pos (of_decide_eq_true h)]
  · rw [if_neg (of_decide_eq_false h)]
  · rw [if_neg (of_decide_eq_false h)]
    have : b = 0 := by simpa using of_decide_eq_false h2
    rw [this]
noncomputable def orC : Ctr := ⟨30, fun vs => match vs with | [.sl f [.int .i64 a, .int .i64 b]] => some ⟨True, .int .i64 (if a ≠ 0 then a else b)⟩ | _ => none, by
  intro vs o ho hp
  split at ho
  · rename_i f a b
    injection ho with ho; subst ho
    exact dataFun0 (C := orCf) (ctrsR_ok [] [] rfl rfl rfl rfl) rfl Tryd.func30 (by kernel_rfl) (by kernel_rfl) (by kernel_rfl) rfl (by kernel_rfl) (orN f a b)
  · cases ho⟩
def cP (p q : Pt) : Int := if cI p.1 q.1 ≠ 0 then cI p.1 q.1 else cI p.2 q.2
noncomputable def comL : List Ctr := [cuC, ciC, orC]
theorem comN (a b c d : Int) : True ∧ True ∧ (2 : Nat) ≤ (2 : Nat) ∧ true = true ∧ True ∧ D.int IntKind.i64 (if cI a c ≠ (0 : Int) then cI a c else cI b d) = D.int IntKind.i64 (cP (a, b) (c, d)) := by
  exact ⟨trivial, trivial, Nat.le_refl _, rfl, trivial, rfl⟩
def srtPt_ren : Go.Shelf.Ren := ⟨fun | 6 => 21 | 15 => 29 | 14 => 28 | 28 => 44 | 29 => 45 | 20 => 36 | 21 => 37 | 22 => 38 | 23 => 39 | 24 => 40 | 25 => 41 | 26 => 42 | 27 => 43 | 46 => 49 | 47 => 50 | 48 => 51 | 49 => 52 | 50 => 53 | 57 => 58 | n => n, fun | 22 => 48 | 24 => 50 | 25 => 52 | 3 => 3 | 39 => 59 | 0 => 0 | 53 => 74 | 55 => 36 | 4 => 4 | 46 => 68 | 45 => 67 | 50 => 30 | 5 => 5 | 9 => 9 | 66 => 79 | 70 => 83 | 76 => 90 | 77 => 91 | n => n, fun | n => n⟩
theorem srtPt : Go.Proofs.SlLaysF0.n6 Tryd.prog srtPt_ren := {
  mixed := by kernel_rfl
  f6 := ⟨Tryd.f21.name, by decide, Tryd.func21.trans (congrArg some (by kernel_rfl))⟩
  f14 := ⟨Tryd.f28.name, by decide, Tryd.func28.trans (congrArg some (by kernel_rfl))⟩
  f15 := Tryd.func29.trans (congrArg some (by kernel_rfl))
  f20 := ⟨Tryd.f36.name, by decide, Tryd.func36.trans (congrArg some (by kernel_rfl))⟩
  f21 := ⟨Tryd.f37.name, by decide, Tryd.func37.trans (congrArg some (by kernel_rfl))⟩
  f22 := ⟨Tryd.f38.name, by decide, Tryd.func38.trans (congrArg some (by kernel_rfl))⟩
  f23 := ⟨Tryd.f39.name, by decide, Tryd.func39.trans (congrArg some (by kernel_rfl))⟩
  f24 := ⟨Tryd.f40.name, by decide, Tryd.func40.trans (congrArg some (by kernel_rfl))⟩
  f25 := ⟨Tryd.f41.name, by decide, Tryd.func41.trans (congrArg some (by kernel_rfl))⟩
  f26 := ⟨Tryd.f42.name, by decide, Tryd.func42.trans (congrArg some (by kernel_rfl))⟩
  f27 := ⟨Tryd.f43.name, by decide, Tryd.func43.trans (congrArg some (by kernel_rfl))⟩
  f28 := Tryd.func44.trans (congrArg some (by kernel_rfl))
  f29 := Tryd.func45.trans (congrArg some (by kernel_rfl))
  f46 := ⟨Tryd.f49.name, by decide, Tryd.func49.trans (congrArg some (by kernel_rfl))⟩
  f47 := Tryd.func50.trans (congrArg some (by kernel_rfl))
  f48 := Tryd.func51.trans (congrArg some (by kernel_rfl))
  f49 := ⟨Tryd.f52.name, by decide, Tryd.func52.trans (congrArg some (by kernel_rfl))⟩
  f50 := ⟨Tryd.f53.name, by decide, Tryd.func53.trans (congrArg some (by kernel_rfl))⟩
  f57 := ⟨Tryd.f58.name, by decide, Tryd.func58.trans (congrArg some (by kernel_rfl))⟩
  t0 := Tryd.underlying0
  a0 := Tryd.isAgg0
  z0 := Tryd.sizeOf0
  v0 := Tryd.zeroValue0
  t3 := Tryd.underlying3
  a3 := Tryd.isAgg3
  z3 := Tryd.sizeOf3
  v3 := Tryd.zeroValue3
  t4 := Tryd.underlying4
  a4 := Tryd.isAgg4
  z4 := Tryd.sizeOf4
  v4 := Tryd.zeroValue4
  t5 := Tryd.underlying5
  a5 := Tryd.isAgg5
  z5 := Tryd.sizeOf5
  v5 := Tryd.zeroValue5
  t9 := Tryd.underlying9
  a9 := Tryd.isAgg9
  z9 := Tryd.sizeOf9
  v9 := Tryd.zeroValue9
  t22 := Tryd.underlying48
  a22 := Tryd.isAgg48
  z22 := Tryd.sizeOf48
  v22 := Tryd.zeroValue48
  t25 := Tryd.underlying52
  a25 := Tryd.isAgg52
  z25 := Tryd.sizeOf52
  v25 := Tryd.zeroValue52
  t39 := Tryd.underlying59
  a39 := Tryd.isAgg59
  z39 := Tryd.sizeOf59
  v39 := Tryd.zeroValue59
  t45 := Tryd.underlying67
  a45 := Tryd.isAgg67
  z45 := Tryd.sizeOf67
  v45 := Tryd.zeroValue67
  t46 := Tryd.underlying68
  a46 := Tryd.isAgg68
  z46 := Tryd.sizeOf68
  v46 := Tryd.zeroValue68
  t50 := Tryd.underlying30
  a50 := Tryd.isAgg30
  z50 := Tryd.sizeOf30
  v50 := Tryd.zeroValue30
  t53 := Tryd.underlying74
  a53 := Tryd.isAgg74
  z53 := Tryd.sizeOf74
  v53 := Tryd.zeroValue74
  t55 := Tryd.underlying36
  a55 := Tryd.isAgg36
  z55 := Tryd.sizeOf36
  v55 := Tryd.zeroValue36
  t66 := Tryd.underlying79
  a66 := Tryd.isAgg79
  z66 := Tryd.sizeOf79
  v66 := Tryd.zeroValue79
  t70 := Tryd.underlying83
  a70 := Tryd.isAgg83
  z70 := Tryd.sizeOf83
  v70 := Tryd.zeroValue83
  t76 := Tryd.underlying90
  a76 := Tryd.isAgg90
  z76 := Tryd.sizeOf90
  v76 := Tryd.zeroValue90
  t77 := Tryd.underlying91
  a77 := Tryd.isAgg91
  z77 := Tryd.sizeOf91
  v77 := Tryd.zeroValue91 }
def ltP (p q : Pt) : Prop := p.1 < q.1 ∨ (p.1 = q.1 ∧ p.2 < q.2)
theorem cI_neg {a b : Int} : cI a b < 0 ↔ a < b := by
  unfold cI; split
  · omega
  · split <;> omega
theorem cI_zero {a b : Int} : cI a b = 0 ↔ a = b := by
  unfold cI; split
  · omega
  · split <;> omega
theorem ltOf_P (p q : Pt) : ltOf cP p q = true ↔ ltP p q := by
  unfold ltOf cP ltP
  rw [decide_eq_true_eq]
  by_cases h : cI p.1 q.1 = 0
  · rw [if_neg (by simpa using h), cI_neg]
    have := cI_zero.1 h
    omega
  · rw [if_pos h, cI_neg]
    have : ¬ p.1 = q.1 := fun e => h (cI_zero.2 e)
    omega
theorem ltOf_Pf (p q : Pt) : ltOf cP p q = false ↔ ¬ ltP p q := by rw [← ltOf_P, Bool.not_eq_true]
theorem swoP : Sort.SWO (ltOf cP) where
  irrefl x := by rw [ltOf_Pf]; unfold ltP; omega
  trans x y z h1 h2 := by rw [ltOf_P] at *; unfold ltP at *; omega
  ntrans x y z h1 h2 := by rw [ltOf_Pf] at *; unfold ltP at *; omega
noncomputable def elemP : ElemK Pt where
  enc := ptD
  cells := fun p => [.int .u64 p.1, .int .i64 p.2]
  k := 2
  hk := by decide
  len := fun _ => rfl
  one := fun x v hv => by simp at hv; rcases hv with rfl | rfl <;> rfl
  toR := fun Γ w x => R.cons (R1.int.2 rfl) (R.cons (R1.int.2 rfl) (.nil _))
  inv := fun Γ w x us h => by
    obtain ⟨v, vs, rfl, h1, h2⟩ := R.cons_inv (show R Γ w none [.int .u64 x.1, .int .i64 x.2] us from h)
    obtain ⟨v', vs', rfl, h3, h4⟩ := h2.cons_inv
    rw [h4.nil_inv, R1.int.1 h1, R1.int.1 h3]
  elem := fun _ => rfl
theorem sortP_ref (l : List Pt) (hl : l ≠ []) (hm : l.length < 4611686018427387904) (cap : Nat) (ex : Bool) : RefFun Tryd.prog 21 [.ms 0 0 l.length cap ex, .fn 22 [] []] [some (.row .own 2 (l.map ptD))] (.tup []) [some (.row .own 2 ((srtV cP l).map ptD))] := by
  have hd : ∀ x y : Pt, DataFun Tryd.prog 22 [ptD x, ptD y] (.int .i64 (cP x y)) := fun x y =>
    dataFun0 (C := gCf 0 comL [] []) (ctrsR_ok comL [] rfl rfl rfl rfl) rfl Tryd.func22 (by kernel_rfl) (by kernel_rfl) (by kernel_rfl) rfl (by kernel_rfl) (comN x.1 x.2 y.1 y.2)
  exact sort_ref elemP srtPt Tryd.isAgg50 Tryd.sizeOf50 cP swoP 22 (enters_of Tryd.func22 (by kernel_rfl) rfl)
    (cmp_calls (Enters.of Tryd.func22 (by kernel_rfl)) elemP cP hd (fun Γ W x => R1.agg.2 ⟨_, rfl, elemP.toR Γ W x, rfl⟩)) l hl hm cap ex
/-- A row is written anew. -/
theorem frame1 {f : FuncId} {args args0 : List D} {σ : Store} {id esz : Nat} {r r' : D} {xs ys : List D} (ho : σ.obj id = some (.row .own esz xs)) (hx : xs.all D.pure = true) (hy : ys.all D.pure = true) (hr : ∀ src, ren src r = r')
    (ha : args.map (ren (asSrc [id])) = args0) (h : RefFun Tryd.prog f args0 [some (.row .own esz xs)] r [some (.row .own esz ys)]) :
    RefFun Tryd.prog f args σ r' (σ.put id (some (.row .own esz ys))) := by
  have hlt := obj_lt ho
  have hsub : SubSt [id] σ [some (.row .own esz xs)] := ⟨rfl, by simp, fun k i hk => by
    match k, hk with
    | 0, hk => injection hk with hk; subst hk; exact ⟨.own, esz, _, _, ho, rfl, .inl ⟨rfl, hx⟩⟩⟩
  have hb : BackSt [id] [] σ [some (.row .own esz ys)] (σ.put id (some (.row .own esz ys))) := ⟨by simp [length_put], by simp, by simp, by simp, fun i _ hi => obj_put_ne (by simpa using hi) _, fun k i hk => by
    match k, hk with
    | 0, hk => injection hk with hk; subst hk; exact .inr ⟨.own, esz, _, _, rfl, obj_put_same hlt _, .inl ⟨rfl, hy⟩⟩, fun j k hk => by simp at hk⟩
  have hf := RefFun.frame (args := args) hsub hb (by rw [ha]; exact h)
  rw [hr] at hf
  exact hf
def spS (vs : List D) (σ : Store) : Option (Prop × D × Store) := match vs with
  | [.ms id 0 n cap ex, .fn 22 [] []] => match σ.obj id with
    | some (.row .own 2 xs) => some (xs ≠ [] ∧ n = xs.length ∧ n < 4611686018427387904 ∧ ∃ l : List Pt, xs = l.map ptD, .any, σ.put id (some (.row .own 2 ((srtV cP (xs.map dPt)).map ptD))))
    | _ => none
  | _ => none
/-- slices.SortFunc of points. -/
noncomputable def spC : RCtr := ⟨21, spS, false, (by
  intro vs σ p r σ' h hp
  unfold spS at h
  split at h
  · rename_i id n cap ex
    split at h
    · rename_i xs ho
      injection h with h; injection h with e1 h; injection h with e2 e3
      subst e1 e2 e3
      obtain ⟨hne, hn, hm, l, rfl⟩ := hp
      rw [List.length_map] at hn
      subst hn
      rw [map_dPt]
      have h0 : rid (asSrc [id]) id = some 0 := by simp [rid, asSrc]
      refine frame1 ho (pure_ptD _) (pure_ptD _) (fun _ => rfl) ?_ (sortP_ref l (fun e => hne (by rw [e]; rfl)) hm cap ex)
      simp only [List.map_cons, List.map_nil, ren, renLeaf, h0]
    · cases h
  · cases h), (fun h => by cases h)⟩
end Go.Proofs.YtfclelafcdcilaaDoor.Dv
