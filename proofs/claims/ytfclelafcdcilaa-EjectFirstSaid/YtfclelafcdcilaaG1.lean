/- slices.Insert of one element (printed by wip/tools/ins.py). -/
import Derived.Test.YtfclelafcdcilaaA0
import Derived.Test.YtfclelafcdcilaaW
set_option linter.unusedVariables false
set_option linter.unusedSimpArgs false
namespace Go.Proofs.Ytfclelafcdcilaa.Dv
open Go Go.Proofs
/-- The model's answer to slices.overlaps: two objects lie apart. -/
def overS (vs : List D) (σ : Store) : Option (Prop × D × Store) := match vs with
  | [.ms i _ _ _ _, .ms j _ _ _ _] => match σ.obj i, σ.obj j with
    | some (.row _ _ _), some (.row _ _ _) => match decide (i = j) with
      | false => some (True, .bool false, σ)
      | true => none
    | _, _ => none
  | _ => none
theorem over_ok {f : FuncId} {fn : Func} {tS tR e : TypeId} (hf : Try.prog.funcs[f]? = some fn) (h1 : (fn.name == "runtime.NumGoroutine") = false) (h2 : fn.body.isNone = true) (h3 : Extern.findNext fn = none) (h4 : Extern.find fn = some (Extern.SlicesOverlaps.overlaps #[tS, tS] #[tR]))
    (ht : Try.prog.underlying tS = some (.slice e)) {size : Nat} (hz : ∀ w, (Go.sizeOf e).run Try.prog w = .ok size w) : ∀ vs σ p r σ', overS vs σ = some (p, r, σ') → p → RefFun Try.prog f vs σ r σ' := by
  intro vs σ p r σ' h hp
  unfold overS at h
  split at h
  · rename_i i _ _ _ _ j _ _ _ _
    split at h
    · rename_i hi hj
      split at h
      · rename_i hd
        injection h with h; injection h with h5 h; injection h with h6 h7
        subst h5 h6 h7
        exact overlaps_ref hf h1 h2 h3 h4 ht hz hi hj (of_decide_eq_false hd)
      · cases h
    · cases h
  · cases h
theorem over_ro : ∀ vs σ p r σ', overS vs σ = some (p, r, σ') → σ' = σ := by
  intro vs σ p r σ' h
  unfold overS at h
  split at h
  · split at h
    · split at h
      · injection h with h; injection h with h5 h; injection h with h6 h7; exact h7.symm
      · cases h
    · cases h
  · cases h
/-- The configuration of a walk over library code. -/
def libCfg (n0 : Nat) (m : List RCtr) (h : List (Nat × Hn)) : WCfg := { spec := specOf [], bspec := bspecOf m, byref := byrefOf m, ro := roOf m, cod := cods, H := hints h, n0 := n0 }
theorem all_okEl_pure {n : Nat} {l : List D} (h : l.all (okEl n) = true) : ∀ x ∈ l, okEl n x = true := List.all_eq_true.1 h
def onO2 (b : Bool) (x : Prop × D × Store) : Option (Prop × D × Store) := match b with | true => some x | false => none
theorem onO2_ok {b : Bool} {x y : Prop × D × Store} (h : onO2 b x = some y) : b = true ∧ x = y := by
  cases b with
  | true => injection h with h; exact ⟨rfl, h⟩
  | false => cases h
theorem obj_app_lt {σ τ : Store} {i : Nat} (h : i < σ.length) : Store.obj (σ ++ τ) i = σ.obj i := by unfold Store.obj; rw [List.getElem?_append_left h]
theorem obj_app_eq (σ : Store) (o : Option Ob) : Store.obj (σ ++ [o]) σ.length = o := by simp [Store.obj]
theorem idx_back {fp : List Nat} {m n : Nat} (hm : fp.length = m) (hlt : ∀ i ∈ fp, i < n) (hs : m < 1000000) : (backL fp [m] n).idxOf? m = some n := by
  rw [List.idxOf?_eq_some_iff]
  have hl : (backL fp [m] n).length = n + 1 := by simp [backL]
  refine ⟨by rw [hl]; omega, ?_, fun j hj => ?_⟩
  · have h : (backL fp [m] n)[n + 0]? = some m := by rw [backL_new]; rfl
    rw [Nat.add_zero, List.getElem?_eq_getElem (by rw [hl]; omega)] at h
    injection h with h
    all_goals simpa using h
  · have h := backL_old (fp := fp) (nw := [m]) hj
    rw [List.getElem?_eq_getElem (by rw [hl]; omega)] at h
    injection h with h
    rw [h]
    cases hi : fp.idxOf? j with
    | none => simp only [Option.getD_none]; simp; omega
    | some k =>
      simp only [Option.getD_some]
      have := (List.getElem?_eq_some_iff.1 (idx_get hi)).1
      simp; omega
theorem idx_back_new {a b n : Nat} (h1 : a < n) (h2 : b < n) : (backL [a, b] [2] n).idxOf? 2 = some n := idx_back rfl (by simp [h1, h2]) (by decide)
theorem idx_back_new1 {a n : Nat} (h1 : a < n) : (backL [a] [1] n).idxOf? 1 = some n := idx_back rfl (by simp [h1]) (by decide)
/-- What slices.Insert does with one element. -/
def insS (esz bytes : Nat) (vs : List D) (σ : Store) : Option (Prop × D × Store) := match vs with
  | [.ms id 0 n cap ex, .int .i64 i, .ms v 0 1 1 true] => match decide (id = v) with
    | true => none
    | false => match σ.obj id, σ.obj v with
      | some (.row .own e xs), some (.row .own e' ys) => match ys with
        | [y] => onO2 (decide (e = esz ∧ e' = esz)) (0 ≤ i ∧ i ≤ n ∧ xs.length = n ∧ (xs.all D.pure = true ∧ y.pure = true) ∧ (xs.all (okEl esz) = true ∧ okEl esz y = true) ∧ (n + 1) * max bytes 1 ≤ 140737488355328,
            .ms σ.length 0 (n + 1) (n + 1) false, σ.put id none ++ [some (.row .own esz (xs.take i.toNat ++ y :: xs.drop i.toNat))])
        | _ => none
      | _, _ => none
  | [.sl true [], .int .i64 i, .ms v 0 1 1 true] => match σ.obj v with
    | some (.row .own e ys) => match ys with
      | [y] => onO2 (decide (e = esz)) (i = 0 ∧ y.pure = true ∧ okEl esz y = true ∧ 1 * max bytes 1 ≤ 140737488355328, .ms σ.length 0 1 1 false, σ ++ [some (.row .own esz [y])])
      | _ => none
    | _ => none
  | _ => none
/-- From the cases of an insertion to what it does among the caller's objects. -/
theorem ins_all {f : FuncId} {esz bytes : Nat} (hz : 0 < esz)
    (room : ∀ (A B J : List D) (j y : D), A.length + B.length + (J.length + 1) ≤ maxLen → B ≠ [] → B.all (okEl esz) = true → okEl esz y = true → RefFun Try.prog f [.ms 0 0 (A.length + B.length) (A.length + B.length + (J.length + 1)) true, .int .i64 A.length, .ms 1 0 1 1 true] [some (.row .own esz (A ++ B ++ j :: J)), some (.row .own esz [y])]
      (.ms 0 0 (A.length + B.length + 1) (A.length + B.length + (J.length + 1)) true) [some (.row .own esz (A ++ y :: B ++ J)), some (.row .own esz [y])])
    (grow : ∀ (A B : List D) (y : D), (A.length + B.length + 1) * max bytes 1 ≤ 140737488355328 → B ≠ [] → A.all (okEl esz) = true → B.all (okEl esz) = true → okEl esz y = true → RefFun Try.prog f [.ms 0 0 (A.length + B.length) (A.length + B.length) true, .int .i64 A.length, .ms 1 0 1 1 true] [some (.row .own esz (A ++ B)), some (.row .own esz [y])]
      (.ms 2 0 (A.length + B.length + 1) (A.length + B.length + 1) false) [some (.row .own esz (A ++ B)), some (.row .own esz [y]), some (.row .own esz (A ++ y :: B))])
    (eroom : ∀ (A : List D) (k : Nat) (y : D), A.length + (k + 1) ≤ maxLen → (A.length + 1) * max bytes 1 ≤ 140737488355328 → A.all D.pure = true → y.pure = true → A.all (okEl esz) = true → okEl esz y = true → RefFun Try.prog f [.ms 0 0 A.length (A.length + (k + 1)) true, .int .i64 A.length, .ms 1 0 1 1 true] [some (.row .own esz (A ++ junkE esz :: List.replicate k (junkE esz))), some (.row .own esz [y])]
      (.ms 0 0 (A.length + 1) (A.length + (k + 1)) true) [some (.row .own esz (A ++ y :: List.replicate k (junkE esz))), some (.row .own esz [y])])
    (egrow : ∀ (A : List D) (y : D), (A.length + 1) * max bytes 1 ≤ 140737488355328 → A.all (okEl esz) = true → okEl esz y = true → RefFun Try.prog f [.ms 0 0 A.length A.length true, .int .i64 A.length, .ms 1 0 1 1 true] [some (.row .own esz A), some (.row .own esz [y])]
      (.ms 2 0 (A.length + 1) (A.length + 1) false) [some (.row .own esz A), some (.row .own esz [y]), some (.row .own esz (A ++ [y]))])
    (enil : ∀ y : D, 1 * max bytes 1 ≤ 140737488355328 → okEl esz y = true → RefFun Try.prog f [.sl true [], .int .i64 0, .ms 0 0 1 1 true] [some (.row .own esz [y])] (.ms 1 0 1 1 false) [some (.row .own esz [y]), some (.row .own esz [y])]) :
    ∀ vs σ p r σ', insS esz bytes vs σ = some (p, r, σ') → p → RefFun Try.prog f vs σ r σ' := by
  -- in a small store
  have small : ∀ (A B : List D) (y : D) (cap : Nat) (ex : Bool), (A.length + B.length + 1) * max bytes 1 ≤ 140737488355328 → (A ++ B).all D.pure = true → y.pure = true → (A ++ B).all (okEl esz) = true → okEl esz y = true →
      RefFun Try.prog f [.ms 0 0 (A.length + B.length) cap ex, .int .i64 A.length, .ms 1 0 1 1 true] [some (.row .own esz (A ++ B)), some (.row .own esz [y])] (.ms 2 0 (A.length + B.length + 1) (A.length + B.length + 1) false) [none, some (.row .own esz [y]), some (.row .own esz (A ++ y :: B))] := by
    intro A B y cap ex hb hpa hpy hall hy
    have hpA : A.all D.pure = true := by rw [List.all_append, Bool.and_eq_true] at hpa; exact hpa.1
    have hA : A.all (okEl esz) = true := by rw [List.all_append, Bool.and_eq_true] at hall; exact hall.1
    have hB : B.all (okEl esz) = true := by rw [List.all_append, Bool.and_eq_true] at hall; exact hall.2
    refine RefFun.known (xs := A ++ B) (esz := esz) rfl (by simp) fun c h1 h2 h3 _ => ?_
    have e1 : List.take (0 + (A.length + B.length)) (A ++ B) = A ++ B := List.take_of_length_le (by simp)
    rw [e1]
    show RefFun Try.prog f _ [some (.row .own esz (A ++ B ++ List.replicate (c - (A.length + B.length)) (junkE esz))), some (.row .own esz [y])] _ _
    have retire : ∀ {r : D} {L : List D}, RefFun Try.prog f [.ms 0 0 (A.length + B.length) c true, .int .i64 A.length, .ms 1 0 1 1 true] [some (.row .own esz (A ++ B ++ List.replicate (c - (A.length + B.length)) (junkE esz))), some (.row .own esz [y])] r [some (.row .own esz L), some (.row .own esz [y]), some (.row .own esz (A ++ y :: B))] →
        RefFun Try.prog f [.ms 0 0 (A.length + B.length) c true, .int .i64 A.length, .ms 1 0 1 1 true] [some (.row .own esz (A ++ B ++ List.replicate (c - (A.length + B.length)) (junkE esz))), some (.row .own esz [y])] r [none, some (.row .own esz [y]), some (.row .own esz (A ++ y :: B))] := by
      intro r L h
      refine h.weak fun Γ1 w' v k1 k2 => ?_
      obtain ⟨l1, l2⟩ := k2.retire 0
      exact ⟨Γ1, k1, l1, ⟨l2, by simp, fun _ h => .inl h⟩⟩
    rcases Nat.eq_or_lt_of_le h1 with hc | hc
    · subst hc
      have e2 : A ++ B ++ List.replicate (A.length + B.length - (A.length + B.length)) (junkE esz) = A ++ B := by simp
      refine retire (L := A ++ B) ?_
      rw [e2]
      cases B with
      | nil => simpa using egrow A y (by simpa using hb) hA hy
      | cons b B => exact grow A (b :: B) y hb (by simp) hA hB hy
    · obtain ⟨k, hk⟩ : ∃ k, c = A.length + B.length + (k + 1) := ⟨c - (A.length + B.length) - 1, by omega⟩
      subst hk
      have e2 : List.replicate (A.length + B.length + (k + 1) - (A.length + B.length)) (junkE esz) = junkE esz :: List.replicate k (junkE esz) := by
        rw [show A.length + B.length + (k + 1) - (A.length + B.length) = k + 1 by omega]; rfl
      rw [e2]
      cases B with
      | nil =>
        have h0 := eroom A k y (by simpa using h3) (by simpa using hb) hpA hpy hA hy
        have h1 := h0.weak (r' := .ms 2 0 (A.length + 1) (A.length + 1) false) (σ' := [none, some (.row .own esz [y]), some (.row .own esz (A ++ [y]))]) fun Γ1 w' v k1 k2 => by
          have e3 : A ++ y :: List.replicate k (junkE esz) = A ++ [y] ++ List.replicate k (junkE esz) := by simp
          rw [e3] at k2 ⊢
          exact inPlace (by simp) k1 (by omega) k2
        simpa using h1
      | cons b B =>
        have h0 := room A (b :: B) (List.replicate k (junkE esz)) (junkE esz) y (by simpa using h3) (by simp) hB hy
        simp only [List.length_replicate] at h0
        refine h0.weak fun Γ1 w' v k1 k2 => ?_
        exact inPlace (L := A ++ y :: b :: B) (J := List.replicate k (junkE esz)) (by simp; omega) k1 (by omega) k2
  intro vs σ p r σ' h hp
  unfold insS at h
  split at h
  · rename_i id n cap ex i v
    split at h
    · cases h
    · rename_i hne
      have hne := of_decide_eq_false hne
      split at h
      · rename_i e xs e' ys ho hv
        split at h
        · rename_i y
          obtain ⟨hd, h⟩ := onO2_ok h
          injection h with h4 h; injection h with h5 h6
          subst h4 h5 h6
          have hd := of_decide_eq_true hd
          rw [hd.1] at ho
          rw [hd.2] at hv
          clear hd
          obtain ⟨h0, h1, h2, ⟨h3, h3'⟩, ⟨h4, h4'⟩, h5⟩ := hp
          obtain ⟨A, B, rfl, hA⟩ : ∃ A B : List D, xs = A ++ B ∧ A.length = i.toNat := ⟨xs.take i.toNat, xs.drop i.toNat, (List.take_append_drop _ _).symm, by rw [List.length_take]; omega⟩
          have hn : n = A.length + B.length := by rw [← h2, List.length_append]
          have hi : i = (A.length : Int) := by omega
          subst hn
          have hs := small A B y cap ex h5 h3 h3' h4 h4'
          rw [← hA, List.take_left, List.drop_left, hi]
          have hlt : id < σ.length := obj_lt ho
          have hltv : v < σ.length := obj_lt hv
          have hsub : SubSt [id, v] σ [some (.row .own esz (A ++ B)), some (.row .own esz [y])] := by
            refine ⟨rfl, by simp [hne], fun k id' hk => ?_⟩
            match k, hk with
            | 0, hk => injection hk with hk; subst hk; exact ⟨_, _, _, _, ho, rfl, .inl ⟨rfl, h3⟩⟩
            | 1, hk => injection hk with hk; subst hk; exact ⟨_, _, _, _, hv, rfl, .inl ⟨rfl, by simp [h3']⟩⟩
          have hback : BackSt [id, v] [2] σ [none, some (.row .own esz [y]), some (.row .own esz (A ++ y :: B))] (σ.put id none ++ [some (.row .own esz (A ++ y :: B))]) := by
            have hl : (σ.put id none).length = σ.length := length_put ..
            refine ⟨by simp [hl], by simp, by simp, fun k hk => ?_, fun k hk hm => ?_, fun k id' hk => ?_, fun j k hk => ?_⟩
            · have : k = 2 := by simpa using hk
              subst this
              refine ⟨by simp, fun o ho => ?_⟩
              injection ho with ho; exact ⟨_, _, ho.symm⟩
            · rw [obj_app_lt (by rw [hl]; exact hk), obj_put_ne (by simp at hm; exact hm.1)]
            · match k, hk with
              | 0, hk =>
                injection hk with hk; subst hk
                left
                rw [obj_app_lt (by rw [hl]; exact hlt), obj_put_same hlt]
              | 1, hk =>
                injection hk with hk; subst hk
                right
                refine ⟨_, _, _, _, rfl, ?_, .inl ⟨rfl, by simp [h3']⟩⟩
                rw [obj_app_lt (by rw [hl]; exact hltv), obj_put_ne (Ne.symm hne)]; exact hv
            · match j, hk with
              | 0, hk =>
                injection hk with hk; subst hk
                right
                refine ⟨_, _, _, _, rfl, ?_, .inl ⟨rfl, ?_⟩⟩
                · rw [← hl, Nat.add_zero]; exact obj_app_eq ..
                · rw [List.all_append, Bool.and_eq_true] at h3
                  simp [List.all_append, h3.1, h3.2, h3']
          have hf := RefFun.frame (args := [.ms id 0 (A.length + B.length) cap ex, .int .i64 A.length, .ms v 0 1 1 true]) hsub hback (by
            have e1 : rid (asSrc [id, v]) id = some 0 := by simp [rid, asSrc, List.idxOf?, List.findIdx?_cons]
            have e2 : rid (asSrc [id, v]) v = some 1 := by simp [rid, asSrc, List.idxOf?, List.findIdx?_cons, hne]
            have e3 : ([.ms id 0 (A.length + B.length) cap ex, .int .i64 A.length, .ms v 0 1 1 true] : List D).map (ren (asSrc [id, v])) = [.ms 0 0 (A.length + B.length) cap ex, .int .i64 A.length, .ms 1 0 1 1 true] := by
              simp only [List.map_cons, List.map_nil, ren, renLeaf, e1, e2]
            rw [e3]
            exact hs)
          have e4 : ren (asSrc (backL [id, v] [2] σ.length)) (.ms 2 0 (A.length + B.length + 1) (A.length + B.length + 1) false) = .ms σ.length 0 (A.length + B.length + 1) (A.length + B.length + 1) false := by
            have : rid (asSrc (backL [id, v] [2] σ.length)) 2 = some σ.length := by
              unfold rid
              rw [asSrc_fst]
              exact idx_back_new hlt hltv
            simp only [ren, renLeaf, this]
          rw [e4] at hf
          exact hf
        · cases h
      · cases h
  · rename_i i v
    split at h
    · rename_i e ys hv
      split at h
      · rename_i y
        obtain ⟨hd, h⟩ := onO2_ok h
        injection h with h4 h; injection h with h5 h6
        subst h4 h5 h6
        have hd := of_decide_eq_true hd
        rw [hd] at hv
        clear hd
        obtain ⟨rfl, h3', h4', h5⟩ := hp
        have hs := enil y h5 h4'
        have hltv : v < σ.length := obj_lt hv
        have hsub : SubSt [v] σ [some (.row .own esz [y])] := by
          refine ⟨rfl, by simp, fun k id' hk => ?_⟩
          match k, hk with
          | 0, hk => injection hk with hk; subst hk; exact ⟨_, _, _, _, hv, rfl, .inl ⟨rfl, by simp [h3']⟩⟩
        have hback : BackSt [v] [1] σ [some (.row .own esz [y]), some (.row .own esz [y])] (σ ++ [some (.row .own esz [y])]) := by
          refine ⟨by simp, by simp, by simp, fun k hk => ?_, fun k hk hm => ?_, fun k id' hk => ?_, fun j k hk => ?_⟩
          · have : k = 1 := by simpa using hk
            subst this
            refine ⟨by simp, fun o ho => ?_⟩
            injection ho with ho; exact ⟨_, _, ho.symm⟩
          · rw [obj_app_lt hk]
          · match k, hk with
            | 0, hk =>
              injection hk with hk; subst hk
              right
              refine ⟨_, _, _, _, rfl, ?_, .inl ⟨rfl, by simp [h3']⟩⟩
              rw [obj_app_lt hltv]; exact hv
          · match j, hk with
            | 0, hk =>
              injection hk with hk; subst hk
              right
              refine ⟨_, _, _, _, rfl, ?_, .inl ⟨rfl, by simp [h3']⟩⟩
              rw [Nat.add_zero]; exact obj_app_eq ..
        have hf := RefFun.frame (args := [.sl true [], .int .i64 0, .ms v 0 1 1 true]) hsub hback (by
          have e2 : rid (asSrc [v]) v = some 0 := by simp [rid, asSrc, List.idxOf?, List.findIdx?_cons]
          have e3 : ([.sl true [], .int .i64 0, .ms v 0 1 1 true] : List D).map (ren (asSrc [v])) = [.sl true [], .int .i64 0, .ms 0 0 1 1 true] := by
            simp only [List.map_cons, List.map_nil, ren, renLeaf, e2]
          rw [e3]
          exact hs)
        have e4 : ren (asSrc (backL [v] [1] σ.length)) (.ms 1 0 1 1 false) = .ms σ.length 0 1 1 false := by
          have : rid (asSrc (backL [v] [1] σ.length)) 1 = some σ.length := by
            unfold rid
            rw [asSrc_fst]
            exact idx_back_new1 hltv
          simp only [ren, renLeaf, this]
        rw [e4] at hf
        exact hf
      · cases h
    · cases h
  · cases h


theorem ren_pureLeaf {src : List (Nat × Bool)} {d : D} (h : d.pleaf = true) : renLeaf src d = d := by cases d <;> first | rfl | (cases h)
theorem pleaf_leaf' {d : D} (h : d.pleaf = true) : d.leaf = true := by cases d <;> first | rfl | (cases h)
theorem ren_pure {src : List (Nat × Bool)} {d : D} (h : d.pure = true) : ren src d = d := by
  have key : d.pleaf = true → renLeaf src d = d := ren_pureLeaf
  cases d with
  | agg ds =>
    have h' : ds.all D.pleaf = true := h
    rw [List.all_eq_true] at h'
    have e : ds.map (renLeaf src) = ds := (List.map_congr_left fun x hx => ren_pureLeaf (h' x hx)).trans (List.map_id _)
    show (let es := ds.map (renLeaf src); if es.all D.leaf then D.agg es else .any) = _
    simp only [e]
    rw [if_pos (by rw [List.all_eq_true]; exact fun x hx => pleaf_leaf' (h' x hx))]
  | fn => cases h
  | _ => exact key h
theorem ren_pures {src : List (Nat × Bool)} {l : List D} (h : l.all D.pure = true) : l.map (ren src) = l := by
  rw [List.all_eq_true] at h
  exact (List.map_congr_left fun x hx => ren_pure (h x hx)).trans (List.map_id _)
theorem okEl_elem {n : Nat} {y : D} (h : okEl n y = true) : y.elem = true := by unfold okEl at h; rw [Bool.and_eq_true] at h; exact h.1
theorem okEls_elem {n : Nat} {l : List D} (h : l.all (okEl n) = true) : l.all D.elem = true := by
  rw [List.all_eq_true] at h ⊢
  exact fun x hx => okEl_elem (h x hx)
def wpR1 (P : Program) (C : WCfg) (fn : Func) (args : List D) (σ : Store) (r : D) (σ' : Store) : Prop := wpC P C (bodyOf fn) (entry args) (fun _ => .no) σ (endR1 P fn r σ')
theorem refFun1 {C : WCfg} (hC : SpecsOk Try.prog C) {σ σ' : Store} (h0 : C.n0 = σ.length) {f : FuncId} {fn : Func} (hf : Try.prog.funcs[f]? = some fn) (hg : goodFn C.M fn = true) {l : List Code} (hl : loops1 C.unr (bodyOf fn) = l) (hT : ∀ x ∈ l, LoopFits Try.prog C fn.ntmps x) {args : List D} (hn : args.length = fn.params.size + fn.nfree)
    {r : D} {q : Prop} (h : wpR1 Try.prog C fn args σ r σ' = q) (hq : q) : RefFun Try.prog f args σ r σ' := refFun_ok hC mix hf hg (loopsIn_of hl hT) hn h0 (of_nf h hq)











end Go.Proofs.Ytfclelafcdcilaa.Dv
