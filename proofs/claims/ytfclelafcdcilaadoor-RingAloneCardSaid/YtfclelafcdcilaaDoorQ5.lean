/- slices.Grow of nothing, slices.Concat of two parts of a row. -/
import Derived.Test.YtfclelafcdcilaaDoorQ4
set_option linter.unusedVariables false
set_option linter.unusedSimpArgs false
namespace Go.Proofs.YtfclelafcdcilaaDoor.Dv
open Go Go.Proofs
/-- What is made in an empty store is made behind any. -/
theorem made_all {f : FuncId} {esz n m : Nat} {args : List D} {ys : List D} (ha : args.map (ren (asSrc [])) = args) (h : RefFun Tryd.prog f args [] (.ms 0 0 n m false) [some (.row .own esz ys)]) (hq : ys.all D.pure = true) (σ : Store) : RefFun Tryd.prog f args σ (.ms σ.length 0 n m false) (σ ++ [some (.row .own esz ys)]) := by
  have hsub : SubSt [] σ [] := ⟨rfl, by simp, fun k id hk => by simp at hk⟩
  have hb : BackSt [] [0] σ [some (.row .own esz ys)] (σ ++ [some (.row .own esz ys)]) := by
    refine ⟨by simp, by simp, by simp, fun k hk => ?_, fun id hid _ => obj_app_lt hid, fun k id hk => by simp at hk, fun j k hk => ?_⟩
    · have : k = 0 := by simpa using hk
      subst this
      refine ⟨by simp, fun o ho => ?_⟩
      injection ho with ho; exact ⟨_, _, ho.symm⟩
    · match j, hk with
      | 0, hk =>
        injection hk with hk; subst hk
        right
        exact ⟨_, _, _, _, rfl, by rw [Nat.add_zero]; exact obj_app_eq .., .inl ⟨rfl, hq⟩⟩
  have hf := RefFun.frame (args := args) hsub hb (by rw [ha]; exact h)
  have e4 : ren (asSrc (backL [] [0] σ.length)) (.ms 0 0 n m false) = .ms σ.length 0 n m false := by
    have : rid (asSrc (backL [] [0] σ.length)) 0 = some σ.length := by
      unfold rid
      rw [asSrc_fst]
      exact idx_back rfl (by simp) (by decide)
    simp only [ren, renLeaf, this]
  rw [e4] at hf
  exact hf
theorem groN (n : Nat) (h : 0 < n) (h2 : n ≤ 100000) : false = false ∧ inK IntKind.i64 ((0 : Int) - (0 : Int)) ∧ inK IntKind.i64 ((↑n : Int) - ((0 : Int) - (0 : Int))) ∧ decide ((0 : Int) < (↑n : Int) - ((0 : Int) - (0 : Int))) = true ∧ (0 : Int) ≤ (0 : Int) ∧ (0 : Nat) ≤ (0 : Nat) ∧ (0 : Nat) ≤ (0 : Nat) ∧ true = true ∧ true = true ∧ (0 : Int) < (↑n : Int) - ((0 : Int) - (0 : Int)) ∧ ((0 : Nat) + ((↑n : Int) - ((0 : Int) - (0 : Int))).toNat) * (16 : Nat) ≤ (140737488355328 : Nat) ∧ (0 : Int) ≤ (0 : Int) ∧ (0 : Nat) ≤ (0 : Nat) ∧ (0 : Nat) ≤ (0 : Nat) + ((↑n : Int) - ((0 : Int) - (0 : Int))).toNat ∧ D.ms (0 : Nat) (0 : Nat) (0 : Nat) n false = D.ms (0 : Nat) (0 : Nat) (0 : Nat) ((0 : Nat) + ((↑n : Int) - ((0 : Int) - (0 : Int))).toNat - (0 : Nat)) false ∧ (some (Ob.row St.own (2 : Nat) (List.replicate n (D.agg [D.int IntKind.u64 (0 : Int), D.int IntKind.i64 (0 : Int)]))) = none ∨ some (Ob.row St.own (2 : Nat) (List.replicate n (D.agg [D.int IntKind.u64 (0 : Int), D.int IntKind.i64 (0 : Int)]))) = some (Ob.row St.own (2 : Nat) ([] ++ List.replicate ((↑n : Int) - ((0 : Int) - (0 : Int))).toNat (D.agg [D.int IntKind.u64 (0 : Int), D.int IntKind.i64 (0 : Int)]))) ∧ ([] ++ List.replicate ((↑n : Int) - ((0 : Int) - (0 : Int))).toNat (D.agg [D.int IntKind.u64 (0 : Int), D.int IntKind.i64 (0 : Int)])).all D.pure = true) := by
  have e : ((n : Int) - (0 - 0)).toNat = n := by omega
  rw [e]
  simp only [inK]
  refine ⟨trivial, by omega, by omega, decide_eq_true (by omega), by omega, by omega, by omega, trivial, trivial, by omega, by omega, by omega, by omega, by omega, ?_, .inr ⟨?_, ?_⟩⟩
  · rw [Nat.zero_add, Nat.sub_zero]
  · rw [List.nil_append]
  · rw [List.nil_append, List.all_eq_true]; intro x hx; rw [List.eq_of_mem_replicate hx]; rfl
def groS (vs : List D) (σ : Store) : Option (Prop × D × Store) := match vs with
  | [.sl true [], .int .i64 n] => some (0 < n ∧ n ≤ 100000, .ms σ.length 0 0 n.toNat false, σ ++ [some (.row .own 2 (List.replicate n.toNat (ptD (0, 0))))])
  | _ => none
def groC : RCtr := ⟨33, groS, false, (by
  intro vs σ p r σ' h hp
  unfold groS at h
  split at h
  · rename_i n
    injection h with h; injection h with e1 h; injection h with e2 e3
    subst e1 e2 e3
    obtain ⟨h1, h2⟩ := hp
    obtain ⟨k, rfl⟩ : ∃ k : Nat, n = k := ⟨n.toNat, by omega⟩
    rw [Int.toNat_natCast]
    refine made_all (by rfl) ?_ (by rw [List.all_eq_true]; intro x hx; rw [List.eq_of_mem_replicate hx]; rfl) σ
    exact refFunW (C := gCf 0 [] [] [(6, .f), (16, .t)]) (ctrsR_ok [] [] rfl rfl rfl rfl) [(0, true)] rfl Tryd.func33 (by kernel_rfl) (l := []) (by kernel_rfl) (fun x hx => by cases hx) (by kernel_rfl) (by kernel_rfl) (groN k (by omega) (by omega))
  · cases h), (fun h => by cases h)⟩
noncomputable def ccCf : WCfg := { gCf 2 [] [groC] [(13, .g), (29, .g), (12, .l), (28, .l), (20, .f), (33, .t)] with unr := fun k => if k = 3 ∨ k = 11 then 3 else 0 }
theorem ccN (l : List Pt) (f g : Nat) (c1 c2 : Nat) (e1 e2 ex : Bool) (h : 0 < f + g) (hl : l.length = f + g) (h2 : f + g ≤ 100000) : inK IntKind.i64 ((0 : Int) + (↑g : Int)) ∧ false = false ∧ inK IntKind.i64 ((0 : Int) + (1 : Int)) ∧ inK IntKind.i64 ((0 : Int) + (↑g : Int) + (↑f : Int)) ∧ false = false ∧ inK IntKind.i64 ((0 : Int) + (1 : Int) + (1 : Int)) ∧ ((0 : Int) < (0 : Int) + (↑g : Int) + (↑f : Int) ∧ (0 : Int) + (↑g : Int) + (↑f : Int) ≤ (100000 : Int)) ∧ f + g ≤ (List.map ptD l).length ∧ (List.take g (List.drop f (List.map ptD l))).all (okEl (ti Tryd.prog (50 : Nat)).sz) = true ∧ (0 : Nat) + ((0 : Int) + (↑g : Int) + (↑f : Int)).toNat ≤ (List.replicate ((0 : Int) + (↑g : Int) + (↑f : Int)).toNat (D.agg [D.int IntKind.u64 (0 : Int), D.int IntKind.i64 (0 : Int)])).length ∧ (0 : Nat) ≤ ((0 : Int) + (↑g : Int) + (↑f : Int)).toNat ∧ ((0 : Nat) + (List.take g (List.drop f (List.map ptD l))).length) * (16 : Nat) ≤ (140737488355328 : Nat) ∧ (0 : Nat) + (List.take g (List.drop f (List.map ptD l))).length ≤ ((0 : Int) + (↑g : Int) + (↑f : Int)).toNat ∧ inK IntKind.i64 ((0 : Int) + (1 : Int)) ∧ (0 : Nat) + f ≤ (List.map ptD l).length ∧ (List.take f (List.drop (0 : Nat) (List.map ptD l))).all (okEl (ti Tryd.prog (50 : Nat)).sz) = true ∧ (0 : Nat) + ((0 : Int) + (↑g : Int) + (↑f : Int)).toNat ≤ ([] ++ List.take g (List.drop f (List.map ptD l)) ++ List.drop ((0 : Nat) + (List.take g (List.drop f (List.map ptD l))).length) (List.replicate ((0 : Int) + (↑g : Int) + (↑f : Int)).toNat (D.agg [D.int IntKind.u64 (0 : Int), D.int IntKind.i64 (0 : Int)]))).length ∧ (0 : Nat) + (List.take g (List.drop f (List.map ptD l))).length ≤ ((0 : Int) + (↑g : Int) + (↑f : Int)).toNat ∧ ((0 : Nat) + (List.take g (List.drop f (List.map ptD l))).length + (List.take f (List.drop (0 : Nat) (List.map ptD l))).length) * (16 : Nat) ≤ (140737488355328 : Nat) ∧ (0 : Nat) + (List.take g (List.drop f (List.map ptD l))).length + (List.take f (List.drop (0 : Nat) (List.map ptD l))).length ≤ ((0 : Int) + (↑g : Int) + (↑f : Int)).toNat ∧ inK IntKind.i64 ((0 : Int) + (1 : Int) + (1 : Int)) ∧ D.ms (2 : Nat) (0 : Nat) (f + g) (f + g) false = D.ms (2 : Nat) (0 : Nat) ((0 : Nat) + (List.take g (List.drop f (List.map ptD l))).length + (List.take f (List.drop (0 : Nat) (List.map ptD l))).length) ((0 : Int) + (↑g : Int) + (↑f : Int)).toNat false ∧ ((none : Option Ob) = none ∨ none = some (Ob.row St.own (1 : Nat) [D.ms (1 : Nat) f g c1 e1, D.ms (1 : Nat) (0 : Nat) f c2 e2]) ∧ false = true) ∧ (some (Ob.row St.own (2 : Nat) (List.map ptD l)) = none ∨ some (Ob.row St.own (2 : Nat) (List.map ptD l)) = some (Ob.row St.own (2 : Nat) (List.map ptD l)) ∧ (List.map ptD l).all D.pure = true) ∧ (some (Ob.row St.own (2 : Nat) (List.map ptD (List.drop f l ++ List.take f l))) = none ∨ some (Ob.row St.own (2 : Nat) (List.map ptD (List.drop f l ++ List.take f l))) = some (Ob.row St.own (2 : Nat) (List.take ((0 : Nat) + ((0 : Nat) + (List.take g (List.drop f (List.map ptD l))).length)) ([] ++ List.take g (List.drop f (List.map ptD l)) ++ List.drop ((0 : Nat) + (List.take g (List.drop f (List.map ptD l))).length) (List.replicate ((0 : Int) + (↑g : Int) + (↑f : Int)).toNat (D.agg [D.int IntKind.u64 (0 : Int), D.int IntKind.i64 (0 : Int)]))) ++ List.take f (List.drop (0 : Nat) (List.map ptD l)) ++ List.drop ((0 : Nat) + ((0 : Nat) + (List.take g (List.drop f (List.map ptD l))).length) + (List.take f (List.drop (0 : Nat) (List.map ptD l))).length) ([] ++ List.take g (List.drop f (List.map ptD l)) ++ List.drop ((0 : Nat) + (List.take g (List.drop f (List.map ptD l))).length) (List.replicate ((0 : Int) + (↑g : Int) + (↑f : Int)).toNat (D.agg [D.int IntKind.u64 (0 : Int), D.int IntKind.i64 (0 : Int)]))))) ∧ (List.take ((0 : Nat) + ((0 : Nat) + (List.take g (List.drop f (List.map ptD l))).length)) ([] ++ List.take g (List.drop f (List.map ptD l)) ++ List.drop ((0 : Nat) + (List.take g (List.drop f (List.map ptD l))).length) (List.replicate ((0 : Int) + (↑g : Int) + (↑f : Int)).toNat (D.agg [D.int IntKind.u64 (0 : Int), D.int IntKind.i64 (0 : Int)]))) ++ List.take f (List.drop (0 : Nat) (List.map ptD l)) ++ List.drop ((0 : Nat) + ((0 : Nat) + (List.take g (List.drop f (List.map ptD l))).length) + (List.take f (List.drop (0 : Nat) (List.map ptD l))).length) ([] ++ List.take g (List.drop f (List.map ptD l)) ++ List.drop ((0 : Nat) + (List.take g (List.drop f (List.map ptD l))).length) (List.replicate ((0 : Int) + (↑g : Int) + (↑f : Int)).toNat (D.agg [D.int IntKind.u64 (0 : Int), D.int IntKind.i64 (0 : Int)])))).all D.pure = true) := by
  have eA : List.take g (List.drop f (List.map ptD l)) = (l.drop f).map ptD := by rw [List.map_drop, List.take_of_length_le (by simp; omega)]
  have eB : List.take f (List.drop 0 (List.map ptD l)) = (l.take f).map ptD := by rw [List.drop_zero, List.map_take]
  have lA : ((l.drop f).map ptD).length = g := by simp; omega
  have lB : ((l.take f).map ptD).length = f := by simp; omega
  have e : (0 + (g : Int) + (f : Int)).toNat = f + g := by omega
  have lC : (List.map ptD l).length = f + g := by rw [List.length_map, hl]
  rw [eA, eB, lA, lB, e, lC, List.nil_append]
  have e1 : List.drop (0 + g) (List.replicate (f + g) (D.agg [D.int IntKind.u64 0, D.int IntKind.i64 0])) = List.replicate f (D.agg [D.int IntKind.u64 0, D.int IntKind.i64 0]) := by rw [List.drop_replicate]; congr 1; omega
  rw [e1]
  have e2 : List.take (0 + (0 + g)) ((l.drop f).map ptD ++ List.replicate f (D.agg [D.int IntKind.u64 0, D.int IntKind.i64 0])) = (l.drop f).map ptD := List.take_left' (by rw [lA]; omega)
  have e3 : List.drop (0 + (0 + g) + f) ((l.drop f).map ptD ++ List.replicate f (D.agg [D.int IntKind.u64 0, D.int IntKind.i64 0])) = [] := List.drop_eq_nil_of_le (by rw [List.length_append, lA, List.length_replicate]; omega)
  rw [e2, e3, List.append_nil, ← List.map_append, List.length_append, lA, List.length_replicate, List.length_replicate]
  have kz : (ti Tryd.prog 50).sz = 2 := by kernel_rfl
  rw [kz]
  simp only [inK]
  refine ⟨by omega, trivial, by omega, by omega, trivial, by omega, by omega, by omega, okEl_ptD _, by omega, by omega, by omega, by omega, by omega, by omega, okEl_ptD _, by omega, by omega, by omega, by omega, by omega, ?_, .inl trivial, .inr ⟨trivial, pure_ptD _⟩, .inr ⟨trivial, pure_ptD _⟩⟩
  congr 1
  omega
theorem inkQ' {x : Int} (h : x = 0 ∨ x = 1 ∨ x = 2) : inK .i64 x := inkQ (by omega)
theorem groN0 : false = false ∧ inK IntKind.i64 ((0 : Int) - (0 : Int)) ∧ inK IntKind.i64 ((0 : Int) - ((0 : Int) - (0 : Int))) ∧ false = false ∧ D.sl true [] = D.sl true [] := by
  exact ⟨rfl, inkQ (by omega), inkQ (by omega), rfl, rfl⟩
def groS0 (vs : List D) (σ : Store) : Option (Prop × D × Store) := match vs with
  | [.sl true [], .int .i64 n] => some (n = 0, .sl true [], σ)
  | _ => none
def groC0 : RCtr := ⟨33, groS0, true, (by
  intro vs σ p r σ' h hp
  unfold groS0 at h
  split at h
  · rename_i n
    injection h with h; injection h with e1 h; injection h with e2 e3
    subst e1 e2 e3
    subst hp
    have hf := RefFun.frame (rs := .sl true []) (fp := []) (nw := []) (σ := σ) (args := [.sl true [], .int .i64 0]) (σs := []) (σs' := []) (σ' := σ) ⟨rfl, by simp, fun k id hk => by simp at hk⟩ ⟨by simp, by simp, by simp, by simp, fun id _ _ => rfl, fun k id hk => by simp at hk, fun j k hk => by simp at hk⟩
      (refFunW (C := gCf 0 [] [] [(6, .f), (16, .f)]) (ctrsR_ok [] [] rfl rfl rfl rfl) [] rfl Tryd.func33 (by kernel_rfl) (l := []) (by kernel_rfl) (fun x hx => by cases hx) (by kernel_rfl) (by kernel_rfl) groN0)
    exact hf
  · cases h), (by
  intro _ vs σ p r σ' h
  unfold groS0 at h
  split at h
  · injection h with h; injection h with _ h; injection h with _ h; exact h.symm
  · cases h)⟩
noncomputable def ccCf0 : WCfg := { gCf 1 [] [groC0] [(13, .g), (29, .g), (12, .l), (28, .l), (20, .f), (33, .t)] with unr := fun k => if k = 3 ∨ k = 11 then 3 else 0 }
theorem ccN0 : inK IntKind.i64 ((0 : Int) + (0 : Int)) ∧ false = false ∧ inK IntKind.i64 ((0 : Int) + (1 : Int)) ∧ inK IntKind.i64 ((0 : Int) + (0 : Int) + (0 : Int)) ∧ false = false ∧ inK IntKind.i64 ((0 : Int) + (1 : Int) + (1 : Int)) ∧ (0 : Int) + (0 : Int) + (0 : Int) = (0 : Int) ∧ true = true ∧ nilT D = [] ∧ inK IntKind.i64 ((0 : Int) + (1 : Int)) ∧ true = true ∧ nilT D = [] ∧ inK IntKind.i64 ((0 : Int) + (1 : Int) + (1 : Int)) ∧ D.sl true [] = D.sl true [] ∧ ((none : Option Ob) = none ∨ none = some (Ob.row St.own (1 : Nat) [D.sl true [], D.sl true []]) ∧ true = true) := by
  exact ⟨inkQ (by omega), rfl, inkQ (by omega), inkQ (by omega), rfl, inkQ (by omega), rfl, rfl, rfl, inkQ (by omega), rfl, rfl, inkQ (by omega), rfl, .inl rfl⟩
def ccS (vs : List D) (σ : Store) : Option (Prop × D × Store) := match vs with
  | [.ms i 0 2 2 _] => match σ.obj i with
    | some (.row .own 1 [.ms j f g _ _, .ms k 0 f' _ _]) => match σ.obj j with
      | some (.row .own 2 xs) => some (i ≠ j ∧ k = j ∧ f' = f ∧ 0 < f + g ∧ xs.length = f + g ∧ f + g ≤ 100000 ∧ ∃ l : List Pt, xs = l.map ptD, .ms σ.length 0 (f + g) (f + g) false, σ.put i none ++ [some (.row .own 2 (xs.drop f ++ xs.take f))])
      | _ => none
    | _ => none
  | _ => none
theorem rid2 {i j : Nat} (h : i ≠ j) : rid (asSrc [i, j]) i = some 0 ∧ rid (asSrc [i, j]) j = some 1 := by
  unfold rid
  rw [asSrc_fst]
  refine ⟨?_, ?_⟩ <;> simp [List.idxOf?, List.findIdx?_cons, h]
/-- slices.Concat of the two parts of a row. -/
noncomputable def ccC : RCtr := ⟨24, ccS, false, (by
  intro vs σ p r σ' h hp
  unfold ccS at h
  split at h
  · rename_i i ex
    split at h
    · rename_i j f g c1 e1 k f' c2 e2 hi
      split at h
      · rename_i xs hj
        injection h with h; injection h with e1' h; injection h with e2' e3'
        subst e1' e2' e3'
        obtain ⟨hij, rfl, rfl, hpos, hlen, hbig, l, rfl⟩ := hp
        have hli := obj_lt hi
        have hlj := obj_lt hj
        obtain ⟨r0, r1⟩ := rid2 hij
        rw [List.length_map] at hlen
        have hsub : SubSt [i, k] σ [some (.row .own 1 [.ms 1 f' g c1 e1, .ms 1 0 f' c2 e2]), some (.row .own 2 (l.map ptD))] := ⟨rfl, by simp [hij], fun q id hq => by
          match q, hq with
          | 0, hq => injection hq with hq; subst hq; exact ⟨.own, 1, _, _, hi, rfl, .inr ⟨by simp only [List.map_cons, List.map_nil, ren, renLeaf, r1], rfl, rfl⟩⟩
          | 1, hq => injection hq with hq; subst hq; exact ⟨.own, 2, _, _, hj, rfl, .inl ⟨rfl, pure_ptD l⟩⟩⟩
        have hb : BackSt [i, k] [2] σ [none, some (.row .own 2 (l.map ptD)), some (.row .own 2 ((l.drop f' ++ l.take f').map ptD))] (σ.put i none ++ [some (.row .own 2 ((l.map ptD).drop f' ++ (l.map ptD).take f'))]) := by
          refine ⟨by simp [length_put], by simp, by simp, fun q hq => ?_, fun id hid hn => ?_, fun q id hq => ?_, fun q t hq => ?_⟩
          · have : q = 2 := by simpa using hq
            subst this
            refine ⟨by simp, fun o ho => ?_⟩
            injection ho with ho; exact ⟨_, _, ho.symm⟩
          · rw [obj_app_lt (by rw [length_put]; exact hid)]
            exact obj_put_ne (by simp at hn; exact hn.1) _
          · match q, hq with
            | 0, hq =>
              injection hq with hq; subst hq
              left
              rw [obj_app_lt (by rw [length_put]; exact hli)]
              exact obj_put_same hli _
            | 1, hq =>
              injection hq with hq; subst hq
              right
              refine ⟨.own, 2, _, _, rfl, ?_, .inl ⟨rfl, pure_ptD l⟩⟩
              rw [obj_app_lt (by rw [length_put]; exact hlj), obj_put_ne (Ne.symm hij)]
              exact hj
          · match q, hq with
            | 0, hq =>
              injection hq with hq; subst hq
              right
              refine ⟨.own, 2, _, _, rfl, ?_, .inl ⟨by rw [List.map_append, List.map_drop, List.map_take], pure_ptD _⟩⟩
              rw [Nat.add_zero]
              have := obj_app_eq (σ := σ.put i none) (o := some (.row .own 2 ((l.map ptD).drop f' ++ (l.map ptD).take f')))
              rw [length_put] at this
              exact this
        have hf := RefFun.frame (args := [.ms i 0 2 2 ex]) hsub hb (rs := .ms 2 0 (f' + g) (f' + g) false) (by
          have e : [D.ms i 0 2 2 ex].map (ren (asSrc [i, k])) = [.ms 0 0 2 2 ex] := by simp only [List.map_cons, List.map_nil, ren, renLeaf, r0]
          rw [e]
          exact refFunW (C := ccCf) (ctrsR_ok [] [groC] rfl rfl rfl rfl) [(0, true), (1, true), (2, true)] rfl Tryd.func24 (by kernel_rfl) (l := []) (by kernel_rfl) (fun x hx => by cases hx) (by kernel_rfl) (by kernel_rfl) (ccN l f' g c1 c2 e1 e2 ex hpos hlen hbig))
        have e4 : ren (asSrc (backL [i, k] [2] σ.length)) (.ms 2 0 (f' + g) (f' + g) false) = .ms σ.length 0 (f' + g) (f' + g) false := by
          have : rid (asSrc (backL [i, k] [2] σ.length)) 2 = some σ.length := by
            unfold rid
            rw [asSrc_fst]
            exact idx_back rfl (by simp [hli, hlj]) (by simp)
          simp only [ren, renLeaf, this]
        rw [e4] at hf
        exact hf
      · cases h
    · cases h
  · cases h), (fun h => by cases h)⟩
def ccS0 (vs : List D) (σ : Store) : Option (Prop × D × Store) := match vs with
  | [.ms i 0 2 2 true] => match σ.obj i with
    | some (.row .own 1 [.sl true [], .sl true []]) => some (True, .sl true [], σ.put i none)
    | _ => none
  | _ => none
/-- slices.Concat of nothing. -/
noncomputable def ccC0 : RCtr := ⟨24, ccS0, false, (by
  intro vs σ p r σ' h hp
  unfold ccS0 at h
  split at h
  · rename_i i
    split at h
    · rename_i hi
      injection h with h; injection h with e1' h; injection h with e2' e3'
      subst e1' e2' e3'
      have hli := obj_lt hi
      have hsub : SubSt [i] σ [some (.row .own 1 [.sl true [], .sl true []])] := ⟨rfl, by simp, fun q id hq => by
        match q, hq with
        | 0, hq => injection hq with hq; subst hq; exact ⟨.own, 1, _, _, hi, rfl, .inl ⟨rfl, rfl⟩⟩⟩
      have hb : BackSt [i] [] σ [none] (σ.put i none) := by
        refine ⟨by simp [length_put], by simp, by simp, by simp, fun id hid hn => obj_put_ne (by simpa using hn) _, fun q id hq => ?_, fun q t hq => by simp at hq⟩
        match q, hq with
        | 0, hq =>
          injection hq with hq; subst hq
          exact .inl (obj_put_same hli _)
      have hf := RefFun.frame (args := [.ms i 0 2 2 true]) hsub hb (rs := .sl true []) (by
        have r0 : rid (asSrc [i]) i = some 0 := by simp [rid, asSrc]
        have e : [D.ms i 0 2 2 true].map (ren (asSrc [i])) = [.ms 0 0 2 2 true] := by simp only [List.map_cons, List.map_nil, ren, renLeaf, r0]
        rw [e]
        exact refFunW (C := ccCf0) (ctrsR_ok [] [groC0] rfl rfl rfl rfl) [(0, true)] rfl Tryd.func24 (by kernel_rfl) (l := []) (by kernel_rfl) (fun x hx => by cases hx) (by kernel_rfl) (by kernel_rfl) ccN0)
      exact hf
    · cases h
  · cases h), (fun h => by cases h)⟩
end Go.Proofs.YtfclelafcdcilaaDoor.Dv
