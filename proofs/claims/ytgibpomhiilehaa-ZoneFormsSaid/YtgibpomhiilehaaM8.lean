/- zone.In: those of a zone, with memory of their own. -/
import Derived.Test.YtgibpomhiilehaaM7
set_option linter.unusedVariables false
set_option linter.unusedSimpArgs false
namespace Go.Proofs.Ytgibpomhiilehaa.Dv
open Go Go.Proofs
theorem idx_old {fp nw : List Nat} {n k id : Nat} (hk : fp[k]? = some id) (hnd : fp.Nodup) (hid : id < n) (hs : fp.length < 1000000) : (backL fp nw n).idxOf? k = some id := by
  rw [List.idxOf?_eq_some_iff]
  have hl : (backL fp nw n).length = n + nw.length := by simp [backL]
  obtain ⟨hkl, hke⟩ := List.getElem?_eq_some_iff.1 hk
  have hat : ∀ j, j < n → (backL fp nw n)[j]? = some ((fp.idxOf? j).getD (1000000 + j)) := fun j hj => backL_old hj
  refine ⟨by rw [hl]; omega, ?_, fun j hj => ?_⟩
  · have h := hat id hid
    rw [List.getElem?_eq_getElem (by rw [hl]; omega)] at h
    injection h with h
    rw [h]
    have : fp.idxOf? id = some k := by
      rw [List.idxOf?_eq_some_iff]
      refine ⟨hkl, by simpa using hke, fun j hj => ?_⟩
      intro he
      have := (List.getElem_inj (h₀ := by omega) (h₁ := hkl) hnd).1 (he.trans hke.symm)
      omega
    rw [this]
    simp
  · have h := hat j (by omega)
    rw [List.getElem?_eq_getElem (by rw [hl]; omega)] at h
    injection h with h
    rw [h]
    cases hi : fp.idxOf? j with
    | none => simp only [Option.getD_none]; simp; omega
    | some k' =>
      simp only [Option.getD_some]
      have h1 := idx_get hi
      intro he
      subst he
      rw [hk] at h1
      injection h1 with h1
      omega
/-- A row is written anew, beside something that is only read. -/
theorem frame2 {f : FuncId} {args args0 : List D} {σ : Store} {id b esz n m c : Nat} {xs ys : List D} {nm : D} (hne : id ≠ b) (ho : σ.obj id = some (.row .own esz xs)) (hb0 : σ.obj b = some (.row .own 1 [nm])) (hx : xs.all D.pure = true) (hy : ys.all D.pure = true) (hm : nm.pure = true)
    (ha : args.map (ren (asSrc [id, b])) = args0) (h : RefFun Try.prog f args0 [some (.row .own esz xs), some (.row .own 1 [nm])] (.ms 0 c n m false) [some (.row .own esz ys), some (.row .own 1 [nm])]) :
    RefFun Try.prog f args σ (.ms id c n m false) (σ.put id (some (.row .own esz ys))) := by
  have hlt := obj_lt ho
  have hm1 : [nm].all D.pure = true := by simp [hm]
  have hsub : SubSt [id, b] σ [some (.row .own esz xs), some (.row .own 1 [nm])] := ⟨rfl, by simpa using hne, fun k i hk => by
    match k, hk with
    | 0, hk => injection hk with hk; subst hk; exact ⟨.own, esz, _, _, ho, rfl, .inl ⟨rfl, hx⟩⟩
    | 1, hk => injection hk with hk; subst hk; exact ⟨.own, 1, [nm], [nm], hb0, rfl, .inl ⟨rfl, hm1⟩⟩⟩
  have hb : BackSt [id, b] [] σ [some (.row .own esz ys), some (.row .own 1 [nm])] (σ.put id (some (.row .own esz ys))) := ⟨by simp [length_put], by simp, by simp, by simp, fun i _ hi => obj_put_ne (by simp at hi; exact hi.1) _, fun k i hk => by
    match k, hk with
    | 0, hk => injection hk with hk; subst hk; exact .inr ⟨.own, esz, _, _, rfl, obj_put_same hlt _, .inl ⟨rfl, hy⟩⟩
    | 1, hk => injection hk with hk; subst hk; exact .inr ⟨.own, 1, [nm], [nm], rfl, (obj_put_ne (fun h => hne h.symm) _).trans hb0, .inl ⟨rfl, hm1⟩⟩, fun j k hk => by simp at hk⟩
  have hf := RefFun.frame (args := args) hsub hb (by rw [ha]; exact h)
  have e4 : ren (asSrc (backL [id, b] [] σ.length)) (.ms 0 c n m false) = .ms id c n m false := by
    have : rid (asSrc (backL [id, b] [] σ.length)) 0 = some id := by
      unfold rid
      rw [asSrc_fst]
      exact idx_old rfl (by simpa using hne) hlt (by simp)
    simp only [ren, renLeaf, this]
  rw [e4] at hf
  exact hf
theorem ren2 {id b : Nat} (hne : id ≠ b) (x y c : Nat) (ex : Bool) (f : FuncId) : [D.ms id c x y ex, .fn f [] [.ptr b 0 0]].map (ren (asSrc [id, b])) = [.ms 0 c x y ex, .fn f [] [.ptr 1 0 0]] := by
  have h0 : rid (asSrc [id, b]) id = some 0 := by
    unfold rid
    rw [asSrc_fst]
    simp [List.idxOf?_cons]
  have h1' : rid (asSrc [id, b]) b = some 1 := by
    unfold rid
    rw [asSrc_fst]
    simp [List.idxOf?_cons, hne]
  simp only [List.map_cons, List.map_nil, ren, renLeaf, h0, h1']
theorem df_ref (nm : ByteArray) (all : List Stat) (h : all.length ≤ 1000) : RefFun Try.prog 54 [.ms 0 0 all.length all.length false, .fn 56 [] [.ptr 1 0 0]] [some (.row .own 21 (all.map statD)), some (.row .own 1 [.str nm])] (.ms 0 0 (keptZ nm all).length all.length false) [some (.row .own 21 ((dfOut nm all).map statD)), some (.row .own 1 [.str nm])] := by
  refine refFunW (C := dfCfg nm all.length) (ctrsR_ok [] [zinC, ixC] rfl rfl rfl rfl) [(0, true), (1, true)] rfl Try.func54 (by kernel_rfl) (l := [lp Try.f54 5]) (by kernel_rfl) (fun x hx => ?_) (by kernel_rfl) (by kernel_rfl) (dfN nm all h)
  rw [List.mem_singleton.1 hx]
  exact (dfL nm all.length).fits 5 [(0, true), (1, true)] (by kernel_rfl) rfl fun s hs => dfR nm all.length s hs
theorem df0_ref (nm : ByteArray) : RefFun Try.prog 54 [.sl true [], .fn 56 [] [.ptr 0 0 0]] [some (.row .own 1 [.str nm])] (.sl true []) [some (.row .own 1 [.str nm])] :=
  refFun_run goodM2 primM2 mix 60 (by kernel_rfl)
def dfS (vs : List D) (σ : Store) : Option (Prop × D × Store) := match vs with
  | [.ms id 0 n m false, .fn 56 [] [.ptr b 0 0]] => match σ.obj id with
    | some (.row .own 21 xs) => match σ.obj b with
      | some (.row .own 1 [.str nm]) => some (id ≠ b ∧ n = xs.length ∧ m = n ∧ n ≤ 1000 ∧ ∃ l : List Stat, xs = l.map statD, .ms id 0 (keptZ nm (xs.map dStat)).length n false, σ.put id (some (.row .own 21 ((dfOut nm (xs.map dStat)).map statD))))
      | _ => none
    | _ => none
  | [.sl true [], .fn 56 [] [.ptr b 0 0]] => match σ.obj b with
    | some (.row .own 1 [.str nm]) => some (True, .sl true [], σ)
    | _ => none
  | _ => none
def dfC : RCtr := ⟨54, dfS, false, (by
  intro vs σ p r σ' h hp
  unfold dfS at h
  split at h
  · rename_i id n m b
    split at h
    · rename_i xs ho
      split at h
      · rename_i nm hb0
        injection h with h; injection h with e1 h; injection h with e2 e3
        subst e1 e2 e3
        obtain ⟨hne, hn, hm, h1, l, rfl⟩ := hp
        rw [List.length_map] at hn
        subst hn hm
        rw [map_dStat]
        exact frame2 hne ho hb0 (pure_statD _) (pure_statD _) rfl (ren2 hne _ _ _ _ _) (df_ref nm l h1)
      · cases h
    · cases h
  · rename_i b
    split at h
    · rename_i nm hb0
      injection h with h; injection h with e1 h; injection h with e2 e3
      subst e1 e2 e3
      have hsub : SubSt [b] σ [some (.row .own 1 [.str nm])] := ⟨rfl, by simp, fun k id hk => by
        match k, hk with
        | 0, hk => injection hk with hk; subst hk; exact ⟨.own, 1, [.str nm], [.str nm], hb0, rfl, .inl ⟨rfl, rfl⟩⟩⟩
      have hb : BackSt [b] [] σ [some (.row .own 1 [.str nm])] σ := ⟨by simp, by simp, by simp, by simp, fun id _ _ => rfl, fun k id hk => by
        match k, hk with
        | 0, hk => injection hk with hk; subst hk; exact .inr ⟨.own, 1, [.str nm], [.str nm], rfl, hb0, .inl ⟨rfl, rfl⟩⟩, fun j k hk => by simp at hk⟩
      have h0 : rid (asSrc [b]) b = some 0 := by simp [rid, asSrc]
      exact RefFun.frame (args := [.sl true [], .fn 56 [] [.ptr b 0 0]]) hsub hb (by
        have e : [D.sl true [], .fn 56 [] [.ptr b 0 0]].map (ren (asSrc [b])) = [.sl true [], .fn 56 [] [.ptr 0 0 0]] := by
          simp only [List.map_cons, List.map_nil, ren, renLeaf, h0]
        rw [e]
        exact df0_ref nm)
    · cases h
  · cases h), (fun h => by cases h)⟩
theorem inN (f : Bool) (x : D) (xs : List D) (nm : ByteArray) (h : ∃ (t : Stat) (l : List Stat), x = statD t ∧ xs = l.map statD ∧ (t :: l).length ≤ 1000 ∧ ∀ u ∈ t :: l, u.small) : (∃ (t : Stat), ∃ (l : List Stat), x = D.agg [D.int IntKind.i64 t.id, D.str t.addr, D.int IntKind.i64 t.prio, D.str t.zone, D.int IntKind.i64 t.w, D.sl t.f (List.map pairD t.mt), D.bool t.up, D.int IntKind.i64 t.run, D.int IntKind.i64 t.forced, D.int IntKind.i64 t.wait, D.int IntKind.i64 t.errors, D.int IntKind.i64 t.bok, D.int IntKind.i64 t.ball, D.bool t.out, D.int IntKind.i64 t.frm, D.int IntKind.i64 t.till, D.int IntKind.i64 t.times, D.bool t.drains, D.int IntKind.i64 t.gone, D.int IntKind.i64 t.since, D.int IntKind.i64 t.active] ∧ xs = List.map statD l ∧ (t :: l).length ≤ (1000 : Nat) ∧ ∀ (u : Stat), List.Mem u (t :: l) → u.small) ∧ (((1 : Nat) = (0 : Nat) → False) ∧ xs.length + (1 : Nat) = (List.map statD (List.map Stat.cp (List.map dStat (x :: xs)))).length ∧ xs.length + (1 : Nat) = xs.length + (1 : Nat) ∧ xs.length + (1 : Nat) ≤ (1000 : Nat) ∧ ∃ (l : List Stat), List.map statD (List.map Stat.cp (List.map dStat (x :: xs))) = List.map statD l) ∧ (0 : Nat) + (keptZ nm (List.map dStat (List.map statD (List.map Stat.cp (List.map dStat (x :: xs)))))).length ≤ (List.map statD (dfOut nm (List.map dStat (List.map statD (List.map Stat.cp (List.map dStat (x :: xs))))))).length ∧ (List.take (keptZ nm (List.map dStat (List.map statD (List.map Stat.cp (List.map dStat (x :: xs)))))).length (List.drop (0 : Nat) (List.map statD (dfOut nm (List.map dStat (List.map statD (List.map Stat.cp (List.map dStat (x :: xs))))))))).all D.pure = true ∧ D.sl false (List.take (keptZ nm (List.map dStat (List.map statD (List.map Stat.cp (List.map dStat (x :: xs)))))).length (List.drop (0 : Nat) (List.map statD (dfOut nm (List.map dStat (List.map statD (List.map Stat.cp (List.map dStat (x :: xs))))))))) = D.sl false (List.map statD (keptZ nm (List.map Stat.cp (List.map dStat (x :: xs))))) := by
  obtain ⟨t, l, rfl, rfl, h1, h2⟩ := h
  have e : (statD t :: l.map statD).map dStat = t :: l := map_dStat (t :: l)
  have hk : (dfOut nm ((t :: l).map Stat.cp)) = keptZ nm ((t :: l).map Stat.cp) ++ List.replicate (((t :: l).map Stat.cp).length - (keptZ nm ((t :: l).map Stat.cp)).length) zStat := rfl
  rw [e, map_dStat]
  refine ⟨⟨t, l, rfl, rfl, h1, h2⟩, ⟨by omega, by simp, rfl, by simpa using h1, _, rfl⟩, by rw [hk]; simp, ?_, ?_⟩
  · rw [List.drop_zero, hk, List.map_append, List.take_left' (by simp)]
    exact pure_statD _
  · rw [List.drop_zero, hk, List.map_append, List.take_left' (by simp)]
theorem inN0 (f : Bool) (nm : ByteArray) : True ∧ True ∧ D.sl true [] = D.sl true [] := ⟨trivial, trivial, rfl⟩
def inS (vs : List D) : Option DOut := match vs with | [.sl f xs, .str nm] => some ⟨∃ l : List Stat, xs = l.map statD ∧ l.length ≤ 1000 ∧ ∀ u ∈ l, u.small, .sl xs.isEmpty ((keptZ nm ((xs.map dStat).map Stat.cp)).map statD)⟩ | _ => none
/-- zone.In: those of a zone. -/
def inC : Ctr := ⟨26, inS, by
  intro vs o ho hp
  unfold inS at ho
  split at ho
  · rename_i f xs nm
    injection ho with ho; subst ho
    obtain ⟨l, rfl, h1, h2⟩ := hp
    cases l with
    | nil => exact dataFun0 (C := zCfg 0 [] [stRC, dfC] []) (ctrsR_ok [] [stRC, dfC] rfl rfl rfl rfl) rfl Try.func26 (by kernel_rfl) (by kernel_rfl) (by kernel_rfl) (by kernel_rfl) (by kernel_rfl) (inN0 f nm)
    | cons t l => exact dataFun0 (C := zCfg 0 [] [stRC, dfC] []) (ctrsR_ok [] [stRC, dfC] rfl rfl rfl rfl) rfl Try.func26 (by kernel_rfl) (by kernel_rfl) (by kernel_rfl) (by kernel_rfl) (by kernel_rfl) (inN f (statD t) (l.map statD) nm ⟨t, l, rfl, rfl, h1, h2⟩)
  · cases ho⟩
end Go.Proofs.Ytgibpomhiilehaa.Dv
