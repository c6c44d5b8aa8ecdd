/- What must hold for a piece of code to come to its end so (second part). -/
import Derived.Test.YtfclelafcdcilaaW1
import Derived.Test.YtfclelafcdcilaaProg
import Derived.KernelRfl
import Derived.Lib.Overlaps
/- Words for proofs over what is computed. -/
set_option linter.unusedVariables false
set_option linter.unusedSimpArgs false
namespace Go.Proofs.Ytfclelafcdcilaa.Dv
open Go Go.Proofs
abbrev nilT (α : Type) : List α := []
theorem of_nf {p q : Prop} (h : p = q) (hq : q) : p := h ▸ hq
theorem mix : Try.prog.follows .mixedOrders = true := by kernel_rfl
def loops1 (u : Nat → Nat) : Code → List Code
  | .seq a b => loops1 u a ++ loops1 u b
  | .cond _ a b => loops1 u a ++ loops1 u b
  | .block _ c => loops1 u c
  | .scope c => loops1 u c
  | .loop c => match u (keyOf c) with | 0 => [c] | _ + 1 => loops1 u c
  | _ => []
theorem loopsIn_of {u : Nat → Nat} {T : Code → Prop} : ∀ {c : Code} {l : List Code}, loops1 u c = l → (∀ x ∈ l, T x) → LoopsIn u T c := by
  intro c
  induction c with
  | seq a b iha ihb =>
    intro l h hl
    simp only [loops1] at h
    subst h
    exact ⟨iha rfl fun x hx => hl x (List.mem_append_left _ hx), ihb rfl fun x hx => hl x (List.mem_append_right _ hx)⟩
  | cond _ a b iha ihb =>
    intro l h hl
    simp only [loops1] at h
    subst h
    exact ⟨iha rfl fun x hx => hl x (List.mem_append_left _ hx), ihb rfl fun x hx => hl x (List.mem_append_right _ hx)⟩
  | block _ c ih => intro l h hl; exact ih h hl
  | scope c ih => intro l h hl; exact ih h hl
  | loop c ih =>
    intro l h hl
    unfold loops1 at h
    split at h
    · rename_i h0; subst h; exact ⟨fun _ => hl c (List.mem_singleton_self c), fun h => absurd h0 h⟩
    · rename_i h0; exact ⟨fun h => by omega, fun _ => ih h hl⟩
  | _ => intros; trivial
theorem noLoops {u : Nat → Nat} {T : Code → Prop} {c : Code} (h : loops1 u c = []) : LoopsIn u T c := loopsIn_of h (by simp)
theorem loopFits_of {P : Program} {C : WCfg} {N : Nat} {c : Code} (k : Nat) {row : LRow} (hk : keyOf c = k) (hrow : C.loops k = some row)
    (h : ∀ b, row.pre b → Tri P C.n0 N (.loop c) (tb (row.T b)) (row.S b) fun ex e σ => ∃ o ∈ row.outs, ∃ a, o.post b a ∧ ex = o.ex ∧ ∃ src, Wk C.n0 src e σ (o.T b a) (o.S b a)) : LoopFits P C N c := by
  intro row' hr
  rw [hk, hrow] at hr
  injection hr with hr
  subst hr
  exact h
/-- A function without loops. -/
theorem dataFun0 {C : WCfg} (hC : SpecsOk Try.prog C) (h0 : C.n0 = 0) {f : FuncId} {fn : Func} (hf : Try.prog.funcs[f]? = some fn) (hg : goodFn C.M fn = true) (hl : loops1 C.unr (bodyOf fn) = []) {args : List D} (hn : args.length = fn.params.size + fn.nfree)
    {r : D} (hr : frz 0 [] r = some r) {q : Prop} (h : wpF Try.prog C fn args r = q) (hq : q) : DataFun Try.prog f args r := dataFun_ok hC mix h0 hf hg (noLoops hl) hn hr (of_nf h hq)
/-- A function with loops. -/
theorem dataFunL {C : WCfg} (hC : SpecsOk Try.prog C) (h0 : C.n0 = 0) {f : FuncId} {fn : Func} (hf : Try.prog.funcs[f]? = some fn) (hg : goodFn C.M fn = true) {l : List Code} (hl : loops1 C.unr (bodyOf fn) = l) (hT : ∀ x ∈ l, LoopFits Try.prog C fn.ntmps x) {args : List D} (hn : args.length = fn.params.size + fn.nfree)
    {r : D} (hr : frz 0 [] r = some r) {q : Prop} (h : wpF Try.prog C fn args r = q) (hq : q) : DataFun Try.prog f args r := dataFun_ok hC mix h0 hf hg (loopsIn_of hl hT) hn hr (of_nf h hq)
/-- A loop's round without loops. -/
theorem round0 {C : WCfg} (hC : SpecsOk Try.prog C) {N : Nat} {c : Code} {T : List (Nat × D)} {Sg : Store} {Q : PostE} (hg : goodCode C.M N c = true) (hl : loops1 C.unr c = []) {q : Prop} (h : wpR Try.prog C c T Sg Q = q) (hq : q) : Tri Try.prog C.n0 N c (tb T) Sg Q :=
  wpR_ok hC mix hg (noLoops hl) (of_nf h hq)
theorem roundL {C : WCfg} (hC : SpecsOk Try.prog C) {N : Nat} {c : Code} {T : List (Nat × D)} {Sg : Store} {Q : PostE} (hg : goodCode C.M N c = true) {l : List Code} (hl : loops1 C.unr c = l) (hT : ∀ x ∈ l, LoopFits Try.prog C N x) {q : Prop} (h : wpR Try.prog C c T Sg Q = q) (hq : q) : Tri Try.prog C.n0 N c (tb T) Sg Q :=
  wpR_ok hC mix hg (loopsIn_of hl hT) (of_nf h hq)

/-! ### contracts of functions -/
structure Ctr where
  f : FuncId
  s : List D → Option DOut
  ok : ∀ vs o, s vs = some o → o.pre → DataFun Try.prog f vs o.r
def specOf (l : List Ctr) : SpecD := fun f vs => l.findSome? fun c => match c.f == f with
  | true => c.s vs
  | false => none
theorem ctrs_ok {C : WCfg} (l : List Ctr) (h : C.spec = specOf l) (hb : C.byref = fun _ => false) : SpecsOk Try.prog C := by
  constructor
  · intro g vs o ho hp
    rw [h] at ho
    unfold specOf at ho
    obtain ⟨c, _, hc⟩ := List.exists_of_findSome?_eq_some ho
    split at hc
    · rename_i he
      rw [beq_iff_eq] at he
      subst he
      exact c.ok vs o hc hp
    · cases hc
  · intro g vs σ p r σ' hr; rw [hb] at hr; cases hr
  · intro g vs σ p r σ' hr; rw [hb] at hr; cases hr
/-- Loops. -/
structure WOut (O : Type) where
  α : Type
  is : O → α → Prop
  ex : Ex
  src : List (Nat × Bool) := []
  T : α → List (Nat × D)
  S : α → Store := fun _ => []
structure WLoop where
  St : Type
  O : Type
  T : St → List (Nat × D)
  S : St → Store := fun _ => []
  ok : St → Prop
  μ : St → Nat
  m : St → O
  src : List (Nat × Bool) := []
  alts : List (List (Nat × Bool)) := []
  outs : List (WOut O)
def hasEx {O : Type} (ex : Ex) (l : List (WOut O)) : Bool := l.any fun x => decide (x.ex = ex)
/-- One of the ways out by this exit. -/
def endR {O : Type} (n0 : Nat) (outs : List (WOut O)) (o : O) : PostE := fun ex e σ => match outs with
  | [] => False
  | x :: r => match decide (x.ex = ex) with
    | true => (match hasEx ex r with
      | true => (∃ a : x.α, x.is o a ∧ Wk n0 x.src e σ (x.T a) (x.S a)) ∨ endR n0 r o ex e σ
      | false => ∃ a : x.α, x.is o a ∧ Wk n0 x.src e σ (x.T a) (x.S a))
    | false => endR n0 r o ex e σ
theorem endR_out {O : Type} {n0 : Nat} {o : O} {ex : Ex} {e : Env} {σ : Store} : ∀ {outs : List (WOut O)}, endR n0 outs o ex e σ → ∃ x ∈ outs, x.ex = ex ∧ ∃ a : x.α, x.is o a ∧ Wk n0 x.src e σ (x.T a) (x.S a)
  | [], h => h.elim
  | x :: r, h => by
    unfold endR at h
    split at h
    · rename_i hx
      have hx := of_decide_eq_true hx
      split at h
      · rcases h with h | h
        · exact ⟨x, List.mem_cons_self .., hx, h⟩
        · obtain ⟨y, hy, h⟩ := endR_out h
          exact ⟨y, List.mem_cons_of_mem _ hy, h⟩
      · exact ⟨x, List.mem_cons_self .., hx, h⟩
    · obtain ⟨y, hy, h⟩ := endR_out h
      exact ⟨y, List.mem_cons_of_mem _ hy, h⟩
/-- By one of these. -/
def altQ (f : List (Nat × Bool) → Prop) (s : List (Nat × Bool)) (r : List (List (Nat × Bool))) : Prop := match r with
  | [] => f s
  | s' :: r => f s ∨ altQ f s' r
theorem altQ_ex {f : List (Nat × Bool) → Prop} : ∀ {r : List (List (Nat × Bool))} {s : List (Nat × Bool)}, altQ f s r → ∃ s, f s
  | [], s, h => ⟨s, h⟩
  | s' :: r, s, h => by
    rcases h with h | h
    · exact ⟨_, h⟩
    · exact altQ_ex h
def WLoop.q (L : WLoop) (n0 : Nat) (s : L.St) : PostE := fun ex e σ => match ex with
  | .normal => altQ (fun src => ∃ s' : L.St, L.ok s' ∧ L.μ s' < L.μ s ∧ L.m s' = L.m s ∧ Wk n0 src e σ (L.T s') (L.S s')) L.src L.alts
  | ex => endR n0 L.outs (L.m s) ex e σ
def WOut.of {L : WLoop} (o : WOut L.O) : LOut L.St := { α := o.α, post := fun s a => o.is (L.m s) a, ex := o.ex, T := fun _ a => o.T a, S := fun _ a => o.S a }
def WLoop.row (L : WLoop) (src0 : List (Nat × Bool)) : LRow := { β := L.St, pre := L.ok, src := src0, T := L.T, S := L.S, outs := L.outs.map WOut.of }
theorem WLoop.fits (L : WLoop) {P : Program} {C : WCfg} {N : Nat} {c : Code} (k : Nat) (src0 : List (Nat × Bool)) (hk : keyOf c = k) (hrow : C.loops k = some (L.row src0)) (h : ∀ s, L.ok s → Tri P C.n0 N c (tb (L.T s)) (L.S s) (L.q C.n0 s)) : LoopFits P C N c := by
  refine loopFits_of k hk hrow fun s hs => ?_
  have := Tri.loop (P := P) (n0 := C.n0) (N := N) (c := c) (S := { s : L.St // L.ok s }) (fun s => L.T s.1) (fun s => L.S s.1) (fun s => L.μ s.1) (fun s => endR C.n0 L.outs (L.m s.1)) ?_ ⟨s, hs⟩
  · refine this.mono fun ex e σ he => ?_
    obtain ⟨x, hx, hxe, a, h1, h2⟩ := endR_out he
    exact ⟨WOut.of x, List.mem_map_of_mem hx, a, h1, hxe.symm, _, h2⟩
  · rintro ⟨s, hs⟩
    refine (h s hs).mono fun ex e σ hq => ?_
    cases ex with
    | normal =>
      obtain ⟨_, s', h1, h2, h3, h4⟩ := altQ_ex hq
      exact ⟨⟨s', h1⟩, h2, fun ex e σ hh => by simp only at hh ⊢; rw [h3] at hh; exact hh, _, h4⟩
    | exit id => exact hq
    | ret => exact hq
/-- Tests of a law. -/
theorem chk {c : Prop} [Decidable c] {A X : Prop} (hc : c) (hA : A) : (decide c = true → A) ∧ (decide c = false → X) := ⟨fun _ => hA, fun h => absurd hc (of_decide_eq_false h)⟩
theorem chkn {c : Prop} [Decidable c] {A X : Prop} (hc : ¬c) (hX : X) : (decide c = true → A) ∧ (decide c = false → X) := ⟨fun h => absurd (of_decide_eq_true h) hc, fun _ => hX⟩
theorem chkb {c : Bool} {A X : Prop} (hc : c = true) (hA : A) : (c = true → A) ∧ (c = false → X) := ⟨fun _ => hA, fun h => (by rw [hc] at h; cases h)⟩
theorem chkf {c : Bool} {A X : Prop} (hc : c = false) (hX : X) : (c = true → A) ∧ (c = false → X) := ⟨fun h => (by rw [hc] at h; cases h), fun _ => hX⟩
theorem chks {c : Prop} [Decidable c] {A X : Prop} (hA : c → A) (hX : ¬c → X) : (decide c = true → A) ∧ (decide c = false → X) := ⟨fun h => hA (of_decide_eq_true h), fun h => hX (of_decide_eq_false h)⟩
/-- What is gathered: nothing yet, or a row of one's own. -/
def outD (id : Nat) (l : List D) : D := match l with
  | [] => .sl true []
  | _ :: _ => .ms id 0 l.length l.length false
def outO (sz : Nat) (l : List D) : Option Ob := match l with
  | [] => none
  | _ :: _ => some (.row .own sz l)
theorem outD_snoc (id : Nat) (l : List D) (x : D) : outD id (l ++ [x]) = .ms id 0 (l.length + 1) (l.length + 1) false := by cases l <;> simp [outD]
theorem outO_snoc (sz : Nat) (l : List D) (x : D) : outO sz (l ++ [x]) = some (.row .own sz (l ++ [x])) := by cases l <;> simp [outO]

/-! ### whole numbers and lists of them -/
def iD (n : Int) : D := .int .i64 n
def dI : D → Int
  | .int _ n => n
  | _ => 0
theorem dI_iD (n : Int) : dI (iD n) = n := rfl
theorem map_dI (l : List Int) : (l.map iD).map dI = l := by rw [List.map_map]; exact (List.map_congr_left fun x _ => rfl).trans (List.map_id l)
theorem pure_iD (l : List Int) : (l.map iD).all D.pure = true := by rw [List.all_eq_true]; intro x hx; obtain ⟨n, _, rfl⟩ := List.mem_map.1 hx; rfl
theorem okEl_iD (l : List Int) : (l.map iD).all (okEl 1) = true := by rw [List.all_eq_true]; intro x hx; obtain ⟨n, _, rfl⟩ := List.mem_map.1 hx; rfl
theorem get_mid {α β : Type} (g : α → β) (a : List α) (x : α) (b : List α) : ((a ++ x :: b).map g)[a.length]? = some (g x) := by simp
theorem get_midI {α β : Type} (g : α → β) (a : List α) (x : α) (b : List α) : ((a ++ x :: b).map g)[((a.length : Int)).toNat]? = some (g x) := by simp
end Go.Proofs.Ytfclelafcdcilaa.Dv
/- A call that works on some of its caller's objects: what it does to them alone is what it does among others. -/
set_option linter.unusedVariables false
set_option linter.unusedSimpArgs false
namespace Go.Proofs.Ytfclelafcdcilaa.Dv
open Go Go.Proofs

/-- The objects that a callee sees, by their names here. -/
def asSrc (fp : List Nat) : List (Nat × Bool) := fp.map fun i => (i, true)
theorem asSrc_fst (fp : List Nat) : (asSrc fp).map (·.1) = fp := by unfold asSrc; rw [List.map_map]; exact (List.map_congr_left fun _ _ => rfl).trans (List.map_id _)
/-- A row as the other side sees it. -/
def RowTo (src : List (Nat × Bool)) (xs ys : List D) : Prop := (ys = xs ∧ xs.all D.pure = true) ∨ (ys = xs.map (ren src) ∧ ys.all D.elem = true ∧ ys.map (fun d => d.cells.length) = xs.map (fun d => d.cells.length))
variable {P : Program} {Γ Γ' Γ1 : Ctx} {w w' : World} {σ σ' σs σs' : Store}
theorem RowTo.R {src : List (Nat × Bool)} {xs ys : List D} (h : RowTo src xs ys) {sz : Nat} {us : List Value} (hr : R Γ w (some sz) xs us) : R (NewC Γ src) w (some sz) ys us := by
  rcases h with ⟨rfl, hp⟩ | ⟨rfl, h1, h2⟩
  · exact hr.pureElems hp
  · exact hr.renElems h1 h2
theorem RowTo.RE {src : List (Nat × Bool)} {xs ys : List D} (h : RowTo src xs ys) {sz : Nat} {us rest : List Value} (hr : RE Γ w sz xs us rest) : RE (NewC Γ src) w sz ys us rest := ⟨h.R hr.r, hr.one⟩
/-- What a callee sees of a store. -/
structure SubSt (fp : List Nat) (σ σs : Store) : Prop where
  len : σs.length = fp.length
  nodup : fp.Nodup
  row : ∀ (k id : Nat), fp[k]? = some id → ∃ st e xs ys, σ.obj id = some (.row st e xs) ∧ σs.obj k = some (.row st e ys) ∧ RowTo (asSrc fp) xs ys
theorem SubSt.get {fp : List Nat} (h : SubSt fp σ σs) {k : Nat} {o : Ob} (ho : σs.obj k = some o) : ∃ id st e xs ys, fp[k]? = some id ∧ σ.obj id = some (.row st e xs) ∧ o = .row st e ys ∧ RowTo (asSrc fp) xs ys := by
  have hk : k < fp.length := by rw [← h.len]; exact obj_lt ho
  obtain ⟨st, e, xs, ys, h1, h2, h3⟩ := h.row k fp[k] (List.getElem?_eq_getElem hk)
  rw [ho] at h2
  injection h2 with h2
  exact ⟨fp[k], st, e, xs, ys, List.getElem?_eq_getElem hk, h1, h2, h3⟩
theorem NewC_at {fp : List Nat} {k id : Nat} (h : fp[k]? = some id) : (NewC Γ (asSrc fp)).ρ k = Γ.ρ id ∧ (NewC Γ (asSrc fp)).ez k = Γ.ez id ∧ (NewC Γ (asSrc fp)).bs k = Γ.bs id := by
  have hd : ((asSrc fp).map (·.1)).getD k 0 = id := by rw [asSrc_fst, List.getD_eq_getElem?_getD, h]; rfl
  exact ⟨by simp only [NewC, hd], by simp only [NewC, hd], by simp only [NewC, hd]⟩
theorem NewC_A {fp : List Nat} {k : Nat} : (NewC Γ (asSrc fp)).A k ↔ ∃ id, fp[k]? = some id ∧ Γ.A id := by
  show (∃ id, ((asSrc fp).map (·.1))[k]? = some id ∧ Γ.A id) ↔ _
  rw [asSrc_fst]
theorem SubSt.SR {fp : List Nat} (h : SubSt fp σ σs) (hs : SR Γ σ w) : SR (NewC Γ (asSrc fp)) σs w := by
  refine ⟨fun k st esz ys ho => ?_, fun k st kvs ho => ?_, fun k k' o o' h1 h2 hρ => ?_, fun k o ho => ?_, fun b hb => hs.old b hb, fun k hk => ?_⟩
  · obtain ⟨id, st', e', xs, ys', h1, h2, h3, h4⟩ := h.get ho
    injection h3 with h5 h6 h7
    subst h5 h6 h7
    obtain ⟨n1, n2, n3⟩ := NewC_at (Γ := Γ) h1
    obtain ⟨⟨k1, k2, c, ee, us, rest, k3, k4, k5, k6⟩, l1, l2⟩ := hs.row _ _ _ _ h2
    exact ⟨⟨by rw [n2]; exact k1, k2, c, ee, us, rest, by rw [n1]; exact k3, by rw [n3]; exact k4, k5, h4.RE k6⟩, fun hst => by rw [n1]; exact l1 hst, fun hst => by rw [n1]; exact l2 hst⟩
  · obtain ⟨id, st', e', xs, ys', h1, h2, h3, h4⟩ := h.get ho
    cases h3
  · obtain ⟨i1, s1, e1, x1, y1, a1, a2, _, _⟩ := h.get h1
    obtain ⟨i2, s2, e2, x2, y2, b1, b2, _, _⟩ := h.get h2
    rw [(NewC_at (Γ := Γ) a1).1, (NewC_at (Γ := Γ) b1).1] at hρ
    have := hs.inj _ _ _ _ a2 b2 hρ
    subst this
    obtain ⟨l1, g1⟩ := List.getElem?_eq_some_iff.1 a1
    obtain ⟨l2, g2⟩ := List.getElem?_eq_some_iff.1 b1
    exact (List.getElem_inj (h₀ := l1) (h₁ := l2) h.nodup).1 (g1.trans g2.symm)
  · obtain ⟨id, st', e', xs, ys', h1, h2, h3, h4⟩ := h.get ho
    exact NewC_A.2 ⟨id, h1, hs.live _ _ h2⟩
  · obtain ⟨id, h1, _⟩ := NewC_A.1 hk
    rw [h.len]
    exact (List.getElem?_eq_some_iff.1 h1).1

/-- The callee's names, where they stand in the caller's store behind the call: those that it saw, then those that are new and wanted. -/
def backL (fp nw : List Nat) (n : Nat) : List Nat := ((List.range n).map fun p => (fp.idxOf? p).getD (1000000 + p)) ++ nw
/-- The caller's store behind the call. -/
structure BackSt (fp nw : List Nat) (σ σs' σ' : Store) : Prop where
  len : σ'.length = σ.length + nw.length
  small : σs'.length ≤ 1000000
  nodup : nw.Nodup
  ge : ∀ k ∈ nw, fp.length ≤ k ∧ ∀ o, σs'.obj k = some o → ∃ e xs, o = .row .own e xs
  keep : ∀ id, id < σ.length → id ∉ fp → σ'.obj id = σ.obj id
  seen : ∀ (k id : Nat), fp[k]? = some id → σ'.obj id = none ∨ ∃ st e xs ys, σs'.obj k = some (.row st e xs) ∧ σ'.obj id = some (.row st e ys) ∧ RowTo (asSrc (backL fp nw σ.length)) xs ys
  new : ∀ (j k : Nat), nw[j]? = some k → σ'.obj (σ.length + j) = none ∨ ∃ st e xs ys, σs'.obj k = some (.row st e xs) ∧ σ'.obj (σ.length + j) = some (.row st e ys) ∧ RowTo (asSrc (backL fp nw σ.length)) xs ys
theorem backL_new {fp nw : List Nat} {n j : Nat} : (backL fp nw n)[n + j]? = nw[j]? := by
  unfold backL
  rw [List.getElem?_append_right (by simp)]
  simp
theorem backL_old {fp nw : List Nat} {n p : Nat} (hp : p < n) : (backL fp nw n)[p]? = some ((fp.idxOf? p).getD (1000000 + p)) := by
  unfold backL
  rw [List.getElem?_append_left (by simpa using hp), List.getElem?_map, List.getElem?_range hp]
  rfl
theorem idx_get {fp : List Nat} {id k : Nat} (h : fp.idxOf? id = some k) : fp[k]? = some id := by
  rw [List.idxOf?_eq_some_iff] at h
  obtain ⟨h1, h2, _⟩ := h
  rw [List.getElem?_eq_getElem h1]
  simpa using h2
def BackC (Γ Γ1 : Ctx) (nw : List Nat) (n : Nat) : Ctx :=
  { C := Γ1.C, A := fun id => if id < n then Γ.A id else ∃ k, nw[id - n]? = some k ∧ Γ1.A k
    ρ := fun id => if id < n then Γ.ρ id else Γ1.ρ (nw.getD (id - n) 0), ez := fun id => if id < n then Γ.ez id else Γ1.ez (nw.getD (id - n) 0), bs := fun id => if id < n then Γ.bs id else Γ1.bs (nw.getD (id - n) 0) }
theorem BackSt.ok {fp nw : List Nat} (hsub : SubSt fp σ σs) (hb : BackSt fp nw σ σs' σ') (hs : SR Γ σ w) (h1 : SR Γ1 σs' w') (hr : Reach (NewC Γ (asSrc fp)) σs w Γ1 σs' w') :
    SR (BackC Γ Γ1 nw σ.length) σ' w' ∧ Reach Γ σ w (BackC Γ Γ1 nw σ.length) σ' w' ∧ Agree (NewC Γ1 (asSrc (backL fp nw σ.length))) (BackC Γ Γ1 nw σ.length) := by
  have hss := hsub.SR hs
  have htr := hr.tr
  have hk : ∀ {k id : Nat}, fp[k]? = some id → id < σ.length ∧ Γ.A id ∧ Γ1.ρ k = Γ.ρ id ∧ Γ1.ez k = Γ.ez id ∧ Γ1.bs k = Γ.bs id := by
    intro k id h
    obtain ⟨st, e, xs, ys, a1, a2, a3⟩ := hsub.row k id h
    have hA := hs.live _ _ a1
    have hA' : (NewC Γ (asSrc fp)).A k := NewC_A.2 ⟨id, h, hA⟩
    obtain ⟨n1, n2, n3⟩ := NewC_at (Γ := Γ) h
    exact ⟨obj_lt a1, hA, by rw [htr.agree.ρ k hA', n1], by rw [htr.agree.ez k hA', n2], by rw [htr.agree.bs k hA', n3]⟩
  have oldC : ∀ {id : Nat}, id < σ.length → (BackC Γ Γ1 nw σ.length).ρ id = Γ.ρ id ∧ (BackC Γ Γ1 nw σ.length).ez id = Γ.ez id ∧ (BackC Γ Γ1 nw σ.length).bs id = Γ.bs id := fun h => ⟨if_pos h, if_pos h, if_pos h⟩
  have newC : ∀ {j k : Nat}, nw[j]? = some k → (BackC Γ Γ1 nw σ.length).ρ (σ.length + j) = Γ1.ρ k ∧ (BackC Γ Γ1 nw σ.length).ez (σ.length + j) = Γ1.ez k ∧ (BackC Γ Γ1 nw σ.length).bs (σ.length + j) = Γ1.bs k := by
    intro j k h
    have hd : nw.getD (σ.length + j - σ.length) 0 = k := by rw [Nat.add_sub_cancel_left, List.getD_eq_getElem?_getD, h]; rfl
    have hn : ¬ σ.length + j < σ.length := by omega
    exact ⟨(if_neg hn).trans (by rw [hd]), (if_neg hn).trans (by rw [hd]), (if_neg hn).trans (by rw [hd])⟩
  have hCC : ∀ b, Γ.C b → Γ1.C b := fun b hb => htr.agree.C b hb
  -- where an object of the new store comes from
  have from' : ∀ {id : Nat} {o : Ob}, σ'.obj id = some o → (id < σ.length ∧ id ∉ fp ∧ σ.obj id = some o) ∨
      (∃ k st e xs ys, σs'.obj k = some (.row st e xs) ∧ o = .row st e ys ∧ RowTo (asSrc (backL fp nw σ.length)) xs ys ∧ (BackC Γ Γ1 nw σ.length).ρ id = Γ1.ρ k ∧ (BackC Γ Γ1 nw σ.length).ez id = Γ1.ez k ∧ (BackC Γ Γ1 nw σ.length).bs id = Γ1.bs k ∧ (fp[k]? = some id ∨ ∃ j, nw[j]? = some k ∧ id = σ.length + j)) := by
    intro id o ho
    have hlt := obj_lt ho
    rw [hb.len] at hlt
    rcases Nat.lt_or_ge id σ.length with h | h
    · by_cases hm : id ∈ fp
      · obtain ⟨k, hk1⟩ := List.getElem?_of_mem hm
        rcases hb.seen k id hk1 with h2 | ⟨st, e, xs, ys, a1, a2, a3⟩
        · rw [h2] at ho; cases ho
        · rw [a2] at ho
          injection ho with ho
          obtain ⟨_, _, b1, b2, b3⟩ := hk hk1
          obtain ⟨c1, c2, c3⟩ := oldC h
          exact .inr ⟨k, st, e, xs, ys, a1, ho.symm, a3, c1.trans b1.symm, c2.trans b2.symm, c3.trans b3.symm, .inl hk1⟩
      · rw [hb.keep id h hm] at ho; exact .inl ⟨h, hm, ho⟩
    · obtain ⟨j, rfl⟩ : ∃ j, id = σ.length + j := ⟨id - σ.length, by omega⟩
      obtain ⟨k, hk1⟩ : ∃ k, nw[j]? = some k := ⟨_, List.getElem?_eq_getElem (by omega)⟩
      rcases hb.new j k hk1 with h2 | ⟨st, e, xs, ys, a1, a2, a3⟩
      · rw [h2] at ho; cases ho
      · rw [a2] at ho
        injection ho with ho
        obtain ⟨c1, c2, c3⟩ := newC hk1
        exact .inr ⟨k, st, e, xs, ys, a1, ho.symm, a3, c1, c2, c3, .inr ⟨j, hk1, rfl⟩⟩
  have hag : Agree Γ (BackC Γ Γ1 nw σ.length) := ⟨hCC, fun id hid => (if_pos (hs.below id hid)).mpr hid, fun id hid => (oldC (hs.below id hid)).1, fun id hid => (oldC (hs.below id hid)).2.1, fun id hid => (oldC (hs.below id hid)).2.2⟩
  have hag2 : Agree (NewC Γ1 (asSrc (backL fp nw σ.length))) (BackC Γ Γ1 nw σ.length) := by
    have key : ∀ id, (NewC Γ1 (asSrc (backL fp nw σ.length))).A id → ∃ k, (backL fp nw σ.length)[id]? = some k ∧ (BackC Γ Γ1 nw σ.length).A id ∧ (BackC Γ Γ1 nw σ.length).ρ id = Γ1.ρ k ∧ (BackC Γ Γ1 nw σ.length).ez id = Γ1.ez k ∧ (BackC Γ Γ1 nw σ.length).bs id = Γ1.bs k := by
      intro id hid
      obtain ⟨k, h2, hA⟩ := NewC_A.1 hid
      refine ⟨k, h2, ?_⟩
      rcases Nat.lt_or_ge id σ.length with h | h
      · rw [backL_old h] at h2
        injection h2 with h2
        cases hi : fp.idxOf? id with
        | none =>
          rw [hi] at h2
          have := h1.below k hA
          have := hb.small
          simp only [Option.getD_none] at h2
          omega
        | some k' =>
          rw [hi] at h2
          simp only [Option.getD_some] at h2
          subst h2
          obtain ⟨_, b0, b1, b2, b3⟩ := hk (idx_get hi)
          obtain ⟨c1, c2, c3⟩ := oldC h
          exact ⟨(if_pos h).mpr b0, c1.trans b1.symm, c2.trans b2.symm, c3.trans b3.symm⟩
      · obtain ⟨j, rfl⟩ : ∃ j, id = σ.length + j := ⟨id - σ.length, by omega⟩
        rw [backL_new] at h2
        obtain ⟨c1, c2, c3⟩ := newC h2
        have hn : ¬ σ.length + j < σ.length := by omega
        refine ⟨(if_neg hn).mpr ⟨k, by rw [Nat.add_sub_cancel_left]; exact h2, hA⟩, c1, c2, c3⟩
    refine ⟨fun b hb => hb, fun id hid => ?_, fun id hid => ?_, fun id hid => ?_, fun id hid => ?_⟩
    · obtain ⟨k, _, h3, _⟩ := key id hid; exact h3
    all_goals
      obtain ⟨k, h2, _, h4, h5, h6⟩ := key id hid
      obtain ⟨n1, n2, n3⟩ := NewC_at (Γ := Γ1) h2
    · rw [n1, h4]
    · rw [n2, h5]
    · rw [n3, h6]
  have hown : ∀ b, Own (NewC Γ (asSrc fp)) σs b → ∃ (k id : Nat), fp[k]? = some id ∧ Γ.ρ id = b ∧ ∃ e xs, σ.obj id = some (.row .own e xs) := by
    rintro b ⟨k, e, ys, ho, hρ⟩
    obtain ⟨id, st, e', xs, ys', a1, a2, a3, _⟩ := hsub.get ho
    injection a3 with a3 a4 a5
    subst a3
    exact ⟨k, id, a1, by rw [← hρ, (NewC_at (Γ := Γ) a1).1], _, _, a2⟩
  have hOwn : ∀ b, Own (NewC Γ (asSrc fp)) σs b → Own Γ σ b := by
    intro b hb
    obtain ⟨k, id, _, h3, e, xs, h4⟩ := hown b hb
    exact ⟨id, e, xs, h4, h3⟩
  -- a block of a row that the callee doesn't see
  have apart : ∀ {id : Nat} {o : Ob}, σ.obj id = some o → id ∉ fp → ¬ Own (NewC Γ (asSrc fp)) σs (Γ.ρ id) := by
    intro id o ho hm hO
    obtain ⟨k, id', a1, a2, e, xs, a3⟩ := hown _ hO
    have := hs.inj _ _ _ _ a3 ho a2
    subst this
    exact hm (List.mem_of_getElem? a1)
  have same : ∀ {id : Nat} {st : St} {e : Nat} {xs : List D}, σ.obj id = some (.row st e xs) → Γ.ρ id < w.heap.size := by
    intro id st e xs ho
    obtain ⟨⟨_, _, c, ee, us, rest, k3, _⟩, _⟩ := hs.row _ _ _ _ ho
    exact (Array.getElem?_eq_some_iff.1 k3).1
  refine ⟨⟨fun id st esz ys ho => ?_, fun id st kvs ho => ?_, fun id id' o o' ho ho' hρ => ?_, fun id o ho => ?_, fun b hb => h1.old b hb, fun id hid => ?_⟩,
    ⟨⟨hag, fun b hb => ?_, fun b hb' => ?_, fun b hb' hn => htr.kept b hb' fun hO => hn (hOwn b hO), htr.os, htr.tape, htr.output, htr.size, htr.drawn⟩, by rw [hb.len]; omega, fun id hid => ?_⟩, hag2⟩
  · rcases from' ho with ⟨hlt, hm, ho⟩ | ⟨k, st', e', xs, ys', a1, a2, a3, b1, b2, b3, _⟩
    · obtain ⟨⟨k1, k2, c, ee, us, rest, k3, k4, k5, k6⟩, l1, l2⟩ := hs.row _ _ _ _ ho
      obtain ⟨c1, c2, c3⟩ := oldC hlt
      have hblk := htr.kept (Γ.ρ id) (same ho) (apart ho hm)
      refine ⟨⟨by rw [c2]; exact k1, k2, c, ee, us, rest, by rw [c1, hblk]; exact k3, by rw [c3]; exact k4, k5, k6.mono hag fun b hb => htr.kept b (hs.old b hb) fun hO => hs.notOwn hb (hOwn b hO)⟩, fun hst => ?_, fun hst => ?_⟩
      · rw [c1]
        intro hC
        rcases htr.cnew _ hC with h2 | h2 | h2
        · exact l1 hst h2
        · have := same ho; omega
        · exact apart ho hm h2
      · rw [c1]; exact hCC _ (l2 hst)
    · injection a2 with a4 a5 a6
      subst a4 a5 a6
      obtain ⟨⟨k1, k2, c, ee, us, rest, k3, k4, k5, k6⟩, l1, l2⟩ := h1.row _ _ _ _ a1
      exact ⟨⟨by rw [b2]; exact k1, k2, c, ee, us, rest, by rw [b1]; exact k3, by rw [b3]; exact k4, k5, (a3.RE k6).mono hag2 fun _ _ => rfl⟩, fun hst => by rw [b1]; exact l1 hst, fun hst => by rw [b1]; exact l2 hst⟩
  · rcases from' ho with ⟨hlt, hm, ho⟩ | ⟨k, st', e', xs, ys', a1, a2, a3, b1, b2, b3, _⟩
    · exact hs.nomap _ _ _ ho
    · cases a2
  · have cross : ∀ {id id' : Nat} {o : Ob} {k : Nat} {st : St} {e : Nat} {xs : List D}, id < σ.length → id ∉ fp → σ.obj id = some o → σs'.obj k = some (.row st e xs) → (fp[k]? = some id' ∨ ∃ j, nw[j]? = some k ∧ id' = σ.length + j) → Γ.ρ id = Γ1.ρ k → False := by
      intro id id' o k st e xs hlt hm ho hk1 hw he
      rcases hw with hw | ⟨j, hj, rfl⟩
      · obtain ⟨st2, e2, x2, y2, a1, _, _⟩ := hsub.row k id' hw
        have := hs.inj _ _ _ _ ho a1 (he.trans (hk hw).2.2.1)
        subst this
        exact hm (List.mem_of_getElem? hw)
      · obtain ⟨_, hg⟩ := hb.ge k (List.mem_of_getElem? hj)
        obtain ⟨e', xs', hg⟩ := hg _ hk1
        injection hg with g1 g2 g3
        subst g1
        cases o with
        | map st kvs => exact hs.nomap _ _ _ ho
        | row st' e'' xs'' =>
        rcases htr.own _ ⟨k, _, _, hk1, rfl⟩ with h2 | h2
        · rw [← he] at h2; exact apart ho hm h2
        · have := same ho; omega
    rcases from' ho with ⟨hlt, hm, ho⟩ | ⟨k, st, e, xs, ys, a1, a2, a3, b1, b2, b3, hw1⟩ <;> rcases from' ho' with ⟨hlt', hm', ho'⟩ | ⟨k', st', e', xs', ys', a1', a2', a3', b1', b2', b3', hw2⟩
    · rw [(oldC hlt).1, (oldC hlt').1] at hρ
      exact hs.inj _ _ _ _ ho ho' hρ
    · rw [(oldC hlt).1, b1'] at hρ
      exact (cross hlt hm ho a1' hw2 hρ).elim
    · rw [(oldC hlt').1, b1] at hρ
      exact (cross hlt' hm' ho' a1 hw1 hρ.symm).elim
    · rw [b1, b1'] at hρ
      have := h1.inj _ _ _ _ a1 a1' hρ
      subst this
      rcases hw1 with hw1 | ⟨j, hj, rfl⟩ <;> rcases hw2 with hw2 | ⟨j', hj', rfl⟩
      · rw [hw1] at hw2; injection hw2
      · have := (hb.ge _ (List.mem_of_getElem? hj')).1
        have := (List.getElem?_eq_some_iff.1 hw1).1
        omega
      · have := (hb.ge _ (List.mem_of_getElem? hj)).1
        have := (List.getElem?_eq_some_iff.1 hw2).1
        omega
      · obtain ⟨l1, g1⟩ := List.getElem?_eq_some_iff.1 hj
        obtain ⟨l2, g2⟩ := List.getElem?_eq_some_iff.1 hj'
        rw [(List.getElem_inj (h₀ := l1) (h₁ := l2) hb.nodup).1 (g1.trans g2.symm)]
  · rcases from' ho with ⟨hlt, hm, ho⟩ | ⟨k, st, e, xs, ys, a1, a2, a3, b1, b2, b3, hw1⟩
    · exact (if_pos hlt).mpr (hs.live _ _ ho)
    · rcases hw1 with hw1 | ⟨j, hj, rfl⟩
      · exact (if_pos (hk hw1).1).mpr (hk hw1).2.1
      · exact (if_neg (by omega)).mpr ⟨k, by rw [Nat.add_sub_cancel_left]; exact hj, h1.live _ _ a1⟩
  · rw [hb.len]
    rcases Nat.lt_or_ge id σ.length with h | h
    · omega
    · obtain ⟨k, hk1, _⟩ := (if_neg (show ¬ id < σ.length by omega)).mp hid
      have := (List.getElem?_eq_some_iff.1 hk1).1
      omega
  · rcases htr.cnew b hb with h2 | h2 | h2
    · exact .inl h2
    · exact .inr (.inl h2)
    · exact .inr (.inr (hOwn b h2))
  · obtain ⟨id, e, ys, ho, hρ⟩ := hb'
    rcases from' ho with ⟨hlt, hm, ho⟩ | ⟨k, st, e', xs, ys', a1, a2, a3, b1, b2, b3, hw1⟩
    · exact .inl ⟨id, e, ys, ho, by rw [← hρ, (oldC hlt).1]⟩
    · injection a2 with a4 a5 a6
      subst a4
      rcases htr.own _ ⟨k, _, _, a1, rfl⟩ with h2 | h2
      · rw [← b1, hρ] at h2; exact .inl (hOwn b h2)
      · rw [← b1, hρ] at h2; exact .inr h2
  · rcases Nat.lt_or_ge id σ.length with h | h
    · exact .inl ((if_pos h).mp hid)
    · exact .inr h
/-- What a call does among other objects. -/
theorem RefFun.frame {f : FuncId} {args : List D} {rs : D} {fp nw : List Nat} (hsub : SubSt fp σ σs) (hb : BackSt fp nw σ σs' σ') (h : RefFun P f (args.map (ren (asSrc fp))) σs rs σs') : RefFun P f args σ (ren (asSrc (backL fp nw σ.length)) rs) σ' := by
  intro Γ w vargs hs hargs
  have hargs' : R (NewC Γ (asSrc fp)) w none (args.map (ren (asSrc fp))) vargs.toList := by
    generalize vargs.toList = vs at hargs
    clear h
    induction args generalizing vs with
    | nil => rw [hargs.nil_inv]; exact .nil _
    | cons d ds ih =>
      obtain ⟨v, vs', rfl, h1, h2⟩ := hargs.cons_inv
      exact R.cons h1.ren (ih _ h2)
  refine (h _ w vargs (hsub.SR hs) hargs').mono ?_
  rintro x w' ⟨v, Γ1, rfl, k1, k2, k3⟩
  obtain ⟨l1, l2, l3⟩ := hb.ok hsub hs k2 k3
  exact ⟨v, _, rfl, k1.ren.mono l3 fun _ _ => rfl, l1, l2⟩

/-! ### a call by reference whose result is data: what it made besides is forgotten -/
def hideB (n : Nat) (σ : Store) : Store := List.replicate n none ++ σ.drop n
def baseSrc (ps : List Bool) : List (Nat × Bool) := (List.range ps.length).map fun i => (i, ps.getD i true)
def endRF (P : Program) (fn : Func) (ps : List Bool) (r : D) (σ' : Store) : KC := fun ex e L σ =>
  match ex with
  | .exit _ => False
  | _ => onO (resultsD P fn.results.toList e σ) fun d => frzW (hideB ps.length σ) d fun r' => r' = r ∧ rowsWk (baseSrc ps) σ (baseSrc ps) σ'
def wpRF (P : Program) (C : WCfg) (fn : Func) (args : List D) (σ : Store) (ps : List Bool) (r : D) (σ' : Store) : Prop :=
  wpC P C (bodyOf fn) (entry args) (fun _ => .no) σ (endRF P fn ps r σ')
theorem hideB_obj {n : Nat} {σ : Store} {id : Nat} {o : Ob} (h : (hideB n σ).obj id = some o) : n ≤ id ∧ σ.obj id = some o := by
  unfold hideB Store.obj at h
  rcases Nat.lt_or_ge id n with hl | hl
  · rw [List.getElem?_append_left (by simpa using hl), List.getElem?_replicate, if_pos hl] at h
    cases h
  · rw [List.getElem?_append_right (by simpa using hl), List.getElem?_drop, List.length_replicate] at h
    rw [show n + (id - n) = id by omega] at h
    exact ⟨hl, h⟩
theorem onlyB_obj {n m : Nat} {σ : Store} {id : Nat} {o : Ob} (h : Store.obj (σ.take n ++ List.replicate m none) id = some o) : id < n ∧ σ.obj id = some o := by
  unfold Store.obj at h
  rcases Nat.lt_or_ge id (σ.take n).length with hl | hl
  · rw [List.getElem?_append_left hl, List.getElem?_take] at h
    rw [List.length_take] at hl
    rw [if_pos (by omega)] at h
    exact ⟨by omega, h⟩
  · rw [List.getElem?_append_right hl, List.getElem?_replicate] at h
    split at h <;> cases h
theorem baseSrc_fst (ps : List Bool) : (baseSrc ps).map (·.1) = List.range ps.length := by
  unfold baseSrc
  rw [List.map_map]
  exact (List.map_congr_left fun _ _ => rfl).trans (List.map_id _)
theorem baseSrc_base (ps : List Bool) : baseWk ps.length (baseSrc ps) = true := by
  unfold baseWk
  rw [baseSrc_fst, Bool.and_eq_true, List.all_eq_true, decide_eq_true_eq]
  exact ⟨fun i hi => by rw [List.getElem?_range (List.mem_range.1 hi)]; simp, List.nodup_range⟩
theorem refFun_okF {C : WCfg} (hC : SpecsOk P C) (hmix : P.follows .mixedOrders = true) {f : FuncId} {fn : Func} (hf : P.funcs[f]? = some fn) (hg : goodFn C.M fn = true) (hl : LoopsIn C.unr (LoopFits P C fn.ntmps) (bodyOf fn)) {args : List D} (hn : args.length = fn.params.size + fn.nfree)
    {σ σ' : Store} (ps : List Bool) (hps : ps.length = σ.length) (h0 : C.n0 = ps.length) {r : D} (h : wpRF P C fn args σ ps r σ') : RefFun P f args σ r σ' := by
  intro Γ w vargs hs hargs
  unfold goodFn at hg
  simp only [Bool.and_eq_true, bne_iff_ne, ne_eq, decide_eq_true_eq] at hg
  obtain ⟨⟨hname, hnt⟩, hbody⟩ := hg
  cases hc : fn.body with
  | none => rw [hc] at hbody; cases hbody
  | some c =>
    rw [hc] at hbody
    simp only at hbody
    have hbo : bodyOf fn = c := by unfold bodyOf; rw [hc]
    unfold wpRF at h
    rw [hbo] at h hl
    refine .inl ⟨⟨fn, hf, hname, by rw [hc]; rfl⟩, ?_⟩
    refine calls_of_wp hf hc ?_
    have hlen : args.length = vargs.size := by simpa using hargs.length
    have htri := wpC_ok hC hmix hbody hl h
    rw [h0, hps] at htri
    refine htri Γ σ w Γ w _ _ rfl (fun id hid => hs.below id hid) (.refl _ _ _) (entry_slots hargs _) hs (by simp; omega) ?_
    rintro ex e' σ1 a' w' ⟨L, hq⟩ ⟨Γ', k1, k2, k3, k4, k5⟩
    have key : onO (resultsD P fn.results.toList e' σ1) (fun d => frzW (hideB ps.length σ1) d fun r' => r' = r ∧ rowsWk (baseSrc ps) σ1 (baseSrc ps) σ') → ∃ v, (results fn a'.tmps).run P w' = .ok v w' ∧ Post Γ σ w r σ' (.returned v) w' := by
      intro hq
      obtain ⟨d, h1, h2⟩ := onO_ok hq
      obtain ⟨r', h3, rfl, hrows⟩ := frzW_ok h2 0
      obtain ⟨v, hv, hrel⟩ := results_ok k2 k1 h1
      refine ⟨v, hv, v, ?_⟩
      have htr := k3.tr
      -- the new rows' blocks are never written any more
      let Γm : Ctx := { Γ' with C := fun b => Γ'.C b ∨ ∃ id st e xs, ps.length ≤ id ∧ σ1.obj id = some (.row st e xs) ∧ st ≠ .shut ∧ Γ'.ρ id = b }
      have hagm : Agree Γ' Γm := ⟨fun b hb => .inl hb, fun _ h => h, fun _ _ => rfl, fun _ _ => rfl, fun _ _ => rfl⟩
      have hsn : SR Γ' (hideB ps.length σ1) w' := by
        refine ⟨fun id st e xs ho => k2.row _ _ _ _ (hideB_obj ho).2, fun id st kvs ho => k2.nomap _ _ _ (hideB_obj ho).2, fun id id' o o' a b c => k2.inj _ _ _ _ (hideB_obj a).2 (hideB_obj b).2 c, fun id o ho => k2.live _ _ (hideB_obj ho).2, k2.old, fun id hid => ?_⟩
        have := k2.below id hid
        unfold hideB
        rw [List.length_append, List.length_replicate, List.length_drop]
        omega
      have hdata : DataR Γm.C w' r' v := frz_ok (Γ' := Γm) hsn hagm hrel h3 fun id st e xs hst ho => .inr ⟨id, st, e, xs, (hideB_obj ho).1, (hideB_obj ho).2, hst, rfl⟩
      have hlen1 : σ.length ≤ σ1.length := k3.len
      have hsm : SR Γm (σ1.take ps.length ++ List.replicate (σ1.length - ps.length) none) w' := by
        refine ⟨fun id st e xs ho => ?_, fun id st kvs ho => k2.nomap _ _ _ (onlyB_obj ho).2, fun id id' o o' a b c => k2.inj _ _ _ _ (onlyB_obj a).2 (onlyB_obj b).2 c, fun id o ho => k2.live _ _ (onlyB_obj ho).2, fun b hb => ?_, fun id hid => ?_⟩
        · obtain ⟨hid, ho⟩ := onlyB_obj ho
          obtain ⟨⟨j1, j2, c, ee, us, rest, j3, j4, j5, j6⟩, l1, l2⟩ := k2.row _ _ _ _ ho
          refine ⟨⟨j1, j2, c, ee, us, rest, j3, j4, j5, j6.mono hagm fun _ _ => rfl⟩, fun hst => ?_, fun hst => .inl (l2 hst)⟩
          rintro (hb | ⟨id', st', e', xs', g1, g2, g3, g4⟩)
          · exact l1 hst hb
          · have := k2.inj _ _ _ _ g2 ho g4
            omega
        · rcases hb with hb | ⟨id', st', e', xs', g1, g2, g3, rfl⟩
          · exact k2.old b hb
          · obtain ⟨⟨_, _, c, ee, us, rest, j3, _⟩, _⟩ := k2.row _ _ _ _ g2
            exact (Array.getElem?_eq_some_iff.1 j3).1
        · have := k2.below id hid
          rw [List.length_append, List.length_take, List.length_replicate]
          omega
      have hrm : Reach Γ σ w Γm (σ1.take ps.length ++ List.replicate (σ1.length - ps.length) none) w' := by
        refine ⟨⟨htr.agree.trans hagm, fun b hb => ?_, fun b hb => ?_, htr.kept, htr.os, htr.tape, htr.output, htr.size, htr.drawn⟩, ?_, fun id hid => k3.anew id hid⟩
        · rcases hb with hb | ⟨id', st', e', xs', g1, g2, g3, rfl⟩
          · exact htr.cnew b hb
          · cases st' with
            | own =>
              rcases htr.own _ ⟨id', _, _, g2, rfl⟩ with h | h
              · exact .inr (.inr h)
              · exact .inr (.inl h)
            | cst => exact htr.cnew _ ((k2.row _ _ _ _ g2).2.2 rfl)
            | shut => exact absurd rfl g3
        · obtain ⟨id, e, xs, ho, hρ⟩ := hb
          exact htr.own b ⟨id, e, xs, (onlyB_obj ho).2, hρ⟩
        · rw [List.length_append, List.length_take, List.length_replicate]; omega
      have hobj : ∀ i, i < ps.length → Store.obj (σ1.take ps.length ++ List.replicate (σ1.length - ps.length) none) i = σ1.obj i := by
        intro i hi
        unfold Store.obj
        rw [List.getElem?_append_left (by rw [List.length_take]; omega), List.getElem?_take, if_pos hi]
      have hrows2 : ∀ (s : List (Nat × Bool)) (τ : Store), (∀ x ∈ s, x.1 < ps.length) → rowsWk (baseSrc ps) σ1 s τ → rowsWk (baseSrc ps) (σ1.take ps.length ++ List.replicate (σ1.length - ps.length) none) s τ := by
        intro s
        induction s with
        | nil => intro τ _ h; cases τ <;> exact h
        | cons x s ih =>
          intro τ hx h
          obtain ⟨id, p⟩ := x
          cases τ with
          | nil => cases s <;> exact h
          | cons o τ =>
            have h := rowsWk_cons h
            have h1 : RowWk (baseSrc ps) p (Store.obj (σ1.take ps.length ++ List.replicate (σ1.length - ps.length) none) id) o := by rw [hobj id (hx _ (List.mem_cons_self ..))]; exact h.1
            have h2 := ih τ (fun y hy => hx y (List.mem_cons_of_mem _ hy)) h.2
            cases s with
            | nil => cases τ with
              | nil => exact h1
              | cons => exact ⟨h1, h2⟩
            | cons => exact ⟨h1, h2⟩
      have hwk : Wk ps.length (baseSrc ps) (fun _ => .any) (σ1.take ps.length ++ List.replicate (σ1.length - ps.length) none) [] σ' := by
        unfold Wk
        rw [baseSrc_base]
        have hr2 := hrows2 (baseSrc ps) σ' (fun x hx => by
          have : x.1 ∈ (baseSrc ps).map (·.1) := List.mem_map_of_mem hx
          rw [baseSrc_fst] at this
          exact List.mem_range.1 this) hrows
        unfold onB
        simp only
        split
        · trivial
        · exact ⟨trivial, hr2⟩
      have hsl : Slots Γm w' (fun _ => .any) a' := fun t => R1.any
      obtain ⟨Γf, f0, f1, f2, f3⟩ := hwk.okC hps.symm hrm hsl hsm fun id hid => by rw [hps]; exact hs.below id hid
      exact ⟨Γf, rfl, hdata Γf fun b hb => by rw [f0]; exact hb, f3, f1⟩
    cases ex with
    | exit id => exact hq.elim
    | normal => obtain ⟨v, hv, hp⟩ := key hq; exact ⟨k5, v, hv, hp⟩
    | ret => obtain ⟨v, hv, hp⟩ := key hq; exact ⟨k5, v, hv, hp⟩

/-! ### a call by reference in general: what is left, under new names -/
def withIdx (n : Nat) : List D → List (Nat × D)
  | [] => []
  | r :: rs => (n, r) :: withIdx (n + 1) rs
theorem withIdx_lookup : ∀ (rs : List D) (n t : Nat), (withIdx n rs).lookup (n + t) = rs[t]?
  | [], n, t => rfl
  | r :: rs, n, 0 => by simp [withIdx, List.lookup_cons]
  | r :: rs, n, t + 1 => by
    have := withIdx_lookup rs (n + 1) t
    rw [show n + (t + 1) = n + 1 + t by omega]
    simp only [withIdx, List.lookup_cons]
    rw [show (n + 1 + t == n) = false by simp; omega]
    simpa using this
def endV (n0 : Nat) (src : List (Nat × Bool)) (d r : D) (σ σ' : Store) : Prop := match d, r with
  | .tup ds, .tup rs => onB (decide (ds.length = rs.length)) (Wk n0 src (fun t => (ds[t]?).getD .any) σ (withIdx 0 rs) σ')
  | d, r => Wk n0 src (fun t => match t with | 0 => d | _ => .any) σ [(0, r)] σ'
def endRW (P : Program) (n0 : Nat) (fn : Func) (src : List (Nat × Bool)) (r : D) (σ' : Store) : KC := fun ex e L σ =>
  match ex with
  | .exit _ => False
  | _ => onO (resultsD P fn.results.toList e σ) fun d => endV n0 src d r σ σ'
def wpRW (P : Program) (C : WCfg) (fn : Func) (args : List D) (σ : Store) (src : List (Nat × Bool)) (r : D) (σ' : Store) : Prop :=
  wpC P C (bodyOf fn) (entry args) (fun _ => .no) σ (endRW P C.n0 fn src r σ')
theorem refFun_okW {C : WCfg} (hC : SpecsOk P C) (hmix : P.follows .mixedOrders = true) {f : FuncId} {fn : Func} (hf : P.funcs[f]? = some fn) (hg : goodFn C.M fn = true) (hl : LoopsIn C.unr (LoopFits P C fn.ntmps) (bodyOf fn)) {args : List D} (hn : args.length = fn.params.size + fn.nfree)
    {σ σ' : Store} (src : List (Nat × Bool)) (h0 : C.n0 = σ.length) {r : D} (h : wpRW P C fn args σ src r σ') : RefFun P f args σ r σ' := by
  intro Γ w vargs hs hargs
  unfold goodFn at hg
  simp only [Bool.and_eq_true, bne_iff_ne, ne_eq, decide_eq_true_eq] at hg
  obtain ⟨⟨hname, hnt⟩, hbody⟩ := hg
  cases hc : fn.body with
  | none => rw [hc] at hbody; cases hbody
  | some c =>
    rw [hc] at hbody
    simp only at hbody
    have hbo : bodyOf fn = c := by unfold bodyOf; rw [hc]
    unfold wpRW at h
    rw [hbo] at h hl
    refine .inl ⟨⟨fn, hf, hname, by rw [hc]; rfl⟩, ?_⟩
    refine calls_of_wp hf hc ?_
    have hlen : args.length = vargs.size := by simpa using hargs.length
    have htri := wpC_ok hC hmix hbody hl h
    rw [h0] at htri
    refine htri Γ σ w Γ w _ _ rfl (fun id hid => hs.below id hid) (.refl _ _ _) (entry_slots hargs _) hs (by simp; omega) ?_
    rintro ex e' σ1 a' w' ⟨L, hq⟩ ⟨Γ', k1, k2, k3, k4, k5⟩
    have key : onO (resultsD P fn.results.toList e' σ1) (fun d => endV σ.length src d r σ1 σ') → ∃ v, (results fn a'.tmps).run P w' = .ok v w' ∧ Post Γ σ w r σ' (.returned v) w' := by
      clear hq
      intro hq
      obtain ⟨d, h1, h2⟩ := onO_ok hq
      obtain ⟨v, hv, hrel⟩ := results_ok k2 k1 h1
      refine ⟨v, hv, v, ?_⟩
      unfold endV at h2
      clear h htri hv h1
      clear hq
      split at h2
      · rename_i ds rs
        obtain ⟨hlen2, hwk⟩ := onB_ok h2
        have hlen2 := of_decide_eq_true hlen2
        obtain ⟨us, rfl, hus⟩ := R1.tup.1 hrel
        have hsl : Slots Γ' w' (fun t => (ds[t]?).getD .any) ({ a' with tmps := us.toArray } : Act) := by
          intro t
          show R1 Γ' w' ((ds[t]?).getD .any) _
          cases hd : ds[t]? with
          | none => exact R1.any
          | some d =>
            rw [Option.getD_some]
            obtain ⟨u, hu, hr1⟩ := hus.get hd
            have : (us.toArray).getD t Go.undef = u := by simp [hu]
            rw [show ({ a' with tmps := us.toArray } : Act).tmps = us.toArray from rfl, this]
            exact hr1
        obtain ⟨Γf, f1, f2, f3⟩ := hwk.ok rfl k3 hsl k2 fun id hid => hs.below id hid
        refine ⟨Γf, rfl, R1.tup.2 ⟨us, rfl, R.of_get (by rw [← hlen2]; exact hus.length) fun i d u hd hu => ?_⟩, f3, f1⟩
        have := f2 i
        have hl0 := withIdx_lookup rs 0 i
        rw [Nat.zero_add] at hl0
        have e1 : tb (withIdx 0 rs) i = d := by unfold tb; rw [hl0, hd]; rfl
        have e2 : ({ a' with tmps := us.toArray } : Act).tmps.getD i Go.undef = u := by
          show (us.toArray).getD i Go.undef = u
          simp [hu]
        rw [e1, e2] at this
        exact this
      · have hsl : Slots Γ' w' (fun t => match t with | 0 => d | _ => .any) ({ a' with tmps := #[v] } : Act) := by
          intro t
          cases t with
          | zero => exact hrel
          | succ t => exact R1.any
        obtain ⟨Γf, f1, f2, f3⟩ := Wk.ok h2 rfl k3 hsl k2 fun id hid => hs.below id hid
        exact ⟨Γf, rfl, f2 0, f3, f1⟩
    cases ex with
    | exit id => exact hq.elim
    | normal => obtain ⟨v, hv, hp⟩ := key hq; exact ⟨k5, v, hv, hp⟩
    | ret => obtain ⟨v, hv, hp⟩ := key hq; exact ⟨k5, v, hv, hp⟩

/-! ### contracts of calls by reference -/
structure RCtr where
  f : FuncId
  s : List D → Store → Option (Prop × D × Store)
  ro : Bool := false
  ok : ∀ vs σ p r σ', s vs σ = some (p, r, σ') → p → RefFun Try.prog f vs σ r σ'
  hro : ro = true → ∀ vs σ p r σ', s vs σ = some (p, r, σ') → σ' = σ
def bspecOf (l : List RCtr) : SpecB := fun f vs σ => l.findSome? fun c => match c.f == f with
  | true => c.s vs σ
  | false => none
def byrefOf (l : List RCtr) : FuncId → Bool := fun f => l.any fun c => c.f == f
def roOf (l : List RCtr) : FuncId → Bool := fun f => l.any (fun c => c.f == f) && l.all fun c => !(c.f == f) || c.ro
theorem ctrsR_ok {C : WCfg} (l : List Ctr) (m : List RCtr) (h : C.spec = specOf l) (hb : C.bspec = bspecOf m) (hy : C.byref = byrefOf m) (hr : C.ro = roOf m) : SpecsOk Try.prog C := by
  constructor
  · intro g vs o ho hp
    rw [h] at ho
    unfold specOf at ho
    obtain ⟨c, _, hc⟩ := List.exists_of_findSome?_eq_some ho
    split at hc
    · rename_i he
      rw [beq_iff_eq] at he
      subst he
      exact c.ok vs o hc hp
    · cases hc
  · intro g vs σ p r σ' _ hs hp
    rw [hb] at hs
    unfold bspecOf at hs
    obtain ⟨c, _, hc⟩ := List.exists_of_findSome?_eq_some hs
    split at hc
    · rename_i he
      rw [beq_iff_eq] at he
      subst he
      exact c.ok vs σ p r σ' hc hp
    · cases hc
  · intro g vs σ p r σ' _ hro hs
    rw [hb] at hs
    rw [hr] at hro
    unfold bspecOf at hs
    obtain ⟨c, hm, hc⟩ := List.exists_of_findSome?_eq_some hs
    split at hc
    · rename_i he
      unfold roOf at hro
      rw [Bool.and_eq_true, List.all_eq_true] at hro
      have := hro.2 c hm
      rw [he] at this
      exact c.hro (by simpa using this) vs σ p r σ' hc
    · cases hc
theorem refFunF {C : WCfg} (hC : SpecsOk Try.prog C) (ps : List Bool) {σ σ' : Store} (hps : ps.length = σ.length) (h0 : C.n0 = ps.length) {f : FuncId} {fn : Func} (hf : Try.prog.funcs[f]? = some fn) (hg : goodFn C.M fn = true) {l : List Code} (hl : loops1 C.unr (bodyOf fn) = l) (hT : ∀ x ∈ l, LoopFits Try.prog C fn.ntmps x) {args : List D} (hn : args.length = fn.params.size + fn.nfree)
    {r : D} {q : Prop} (h : wpRF Try.prog C fn args σ ps r σ' = q) (hq : q) : RefFun Try.prog f args σ r σ' := refFun_okF hC mix hf hg (loopsIn_of hl hT) hn ps hps h0 (of_nf h hq)
theorem refFunW {C : WCfg} (hC : SpecsOk Try.prog C) (src : List (Nat × Bool)) {σ σ' : Store} (h0 : C.n0 = σ.length) {f : FuncId} {fn : Func} (hf : Try.prog.funcs[f]? = some fn) (hg : goodFn C.M fn = true) {l : List Code} (hl : loops1 C.unr (bodyOf fn) = l) (hT : ∀ x ∈ l, LoopFits Try.prog C fn.ntmps x) {args : List D} (hn : args.length = fn.params.size + fn.nfree)
    {r : D} {q : Prop} (h : wpRW Try.prog C fn args σ src r σ' = q) (hq : q) : RefFun Try.prog f args σ r σ' := refFun_okW hC mix hf hg (loopsIn_of hl hT) hn src h0 (of_nf h hq)
end Go.Proofs.Ytfclelafcdcilaa.Dv
/- What a call is shown to do where the room of a slice is known, holds where it isn't; the model's slices.overlaps. -/
set_option linter.unusedVariables false
set_option linter.unusedSimpArgs false
namespace Go.Proofs.Ytfclelafcdcilaa.Dv
open Go Go.Proofs
variable {P : Program} {Γ Γ' Γ1 : Ctx} {w w' : World} {σ σ' σ1 : Store}

/-- An element of which nothing is known. -/
def junkE (esz : Nat) : D := match esz with | 1 => .junk | n => .agg (List.replicate n .junk)
theorem junk_R : ∀ {us : List Value}, (∀ u ∈ us, u.oneCell' = true) → R Γ w none (List.replicate us.length .junk) us
  | [], _ => .nil _
  | u :: us, h => R.cons ((R1.atom_iff (d := .junk) rfl).2 (h u (List.mem_cons_self ..))) (junk_R fun v hv => h v (List.mem_cons_of_mem _ hv))
theorem junkE_elem (esz : Nat) : (junkE esz).elem = true := by
  unfold junkE
  split
  · rfl
  · simp only [D.elem, List.all_eq_true]
    intro x hx
    rw [List.eq_of_mem_replicate hx]; rfl
theorem junkE_cells {esz : Nat} (hz : 0 < esz) : (junkE esz).cells = List.replicate esz .junk := by
  unfold junkE
  split <;> rfl
theorem junk_rows {esz : Nat} (hz : 0 < esz) : ∀ (k : Nat) {us : List Value}, us.length = k * esz → (∀ u ∈ us, u.oneCell' = true) → R Γ w (some esz) (List.replicate k (junkE esz)) us
  | 0, us, hl, _ => by
    have : us = [] := by cases us <;> simp_all
    rw [this]; exact .nil _
  | k + 1, us, hl, h1 => by
    have e : us = us.take esz ++ us.drop esz := (List.take_append_drop _ _).symm
    rw [Nat.add_mul, Nat.one_mul] at hl
    have hlt : (us.take esz).length = esz := by rw [List.length_take]; omega
    rw [e, List.replicate_succ]
    refine .elem (junkE_elem _) ?_ hlt (junk_rows hz k (by rw [List.length_drop]; omega) fun u hu => h1 u (List.mem_of_mem_drop hu))
    rw [junkE_cells hz]
    have := junk_R (Γ := Γ) (w := w) (us := us.take esz) fun u hu => h1 u (List.mem_of_mem_take hu)
    rw [hlt] at this
    exact this

/-! ### a row seen anew -/
theorem own_put {id esz : Nat} {xs ys : List D} (ho : σ.obj id = some (.row .own esz xs)) {b : Nat} : Own Γ (σ.put id (some (.row .own esz ys))) b ↔ Own Γ σ b := by
  constructor
  · rintro ⟨k, e, zs, hk, hb⟩
    rw [obj_put] at hk
    split at hk
    · rename_i h; exact ⟨id, esz, xs, ho, by rw [← hb, h.1]⟩
    · exact ⟨k, e, zs, hk, hb⟩
  · rintro ⟨k, e, zs, hk, hb⟩
    by_cases h : k = id
    · subst h; exact ⟨k, esz, ys, obj_put_same (obj_lt ho) _, hb⟩
    · exact ⟨k, e, zs, by rw [obj_put_ne h]; exact hk, hb⟩
theorem SR.seen (hs : SR Γ σ w) {id esz : Nat} {xs ys : List D} (ho : σ.obj id = some (.row .own esz xs))
    (h : ∀ us rest, RE Γ w esz xs us rest → us.length + rest.length = Γ.bs id → ∃ us' rest', us' ++ rest' = us ++ rest ∧ RE Γ w esz ys us' rest') :
    SR Γ (σ.put id (some (.row .own esz ys))) w := by
  have hx : ∀ {k : Nat} {o : Ob}, (σ.put id (some (.row .own esz ys))).obj k = some o → (k = id ∧ o = .row .own esz ys) ∨ (k ≠ id ∧ σ.obj k = some o) := by
    intro k o hk
    by_cases he : k = id
    · subst he
      rw [obj_put_same (obj_lt ho)] at hk
      injection hk with hk
      exact .inl ⟨rfl, hk.symm⟩
    · rw [obj_put_ne he] at hk; exact .inr ⟨he, hk⟩
  have hy : ∀ {k : Nat} {o : Ob}, (σ.put id (some (.row .own esz ys))).obj k = some o → ∃ o', σ.obj k = some o' := by
    intro k o hk
    rcases hx hk with ⟨rfl, _⟩ | ⟨_, h⟩
    · exact ⟨_, ho⟩
    · exact ⟨_, h⟩
  refine ⟨fun k st e zs hk => ?_, fun k st kvs hk => ?_, fun k k' o o' hk hk' hρ => ?_, fun k o hk => ?_, hs.old, fun k hk => by rw [length_put]; exact hs.below k hk⟩
  · rcases hx hk with ⟨rfl, he⟩ | ⟨_, hk⟩
    · injection he with h1 h2 h3
      subst h1 h2 h3
      obtain ⟨⟨h1, h2, c, ee, us, rest, h3, h4, h5, h6⟩, h7, h8⟩ := hs.row _ _ _ _ ho
      obtain ⟨us', rest', k1, k2⟩ := h us rest h6 (by rw [← h4]; have := congrArg List.length h5; simpa using this.symm)
      exact ⟨⟨h1, h2, c, ee, us', rest', h3, h4, by rw [k1]; exact h5, k2⟩, h7, h8⟩
    · exact hs.row _ _ _ _ hk
  · rcases hx hk with ⟨rfl, he⟩ | ⟨_, hk⟩
    · cases he
    · exact hs.nomap _ _ _ hk
  · obtain ⟨o1, h1⟩ := hy hk
    obtain ⟨o2, h2⟩ := hy hk'
    exact hs.inj _ _ _ _ h1 h2 hρ
  · obtain ⟨o1, h1⟩ := hy hk
    exact hs.live _ _ h1
theorem reach_own {Γ2 : Ctx} {σ2 : Store} (hl : σ.length = σ1.length) (ho : ∀ b, Own Γ σ1 b ↔ Own Γ σ b) (h : Reach Γ σ1 w Γ2 σ2 w') : Reach Γ σ w Γ2 σ2 w' := by
  obtain ⟨⟨h1, h2, h3, h4, h5, h6, h7, h8, h8d⟩, h9, h10⟩ := h
  exact ⟨⟨h1, fun b hb => (h2 b hb).imp_right (Or.imp_right (ho b).1), fun b hb => (h3 b hb).imp_left (ho b).1, fun b hb hn => h4 b hb fun hh => hn ((ho b).1 hh), h5, h6, h7, h8, h8d⟩, by omega, fun id hid => (h10 id hid).imp_right fun h => by omega⟩
theorem oneCells_of {esz : Nat} {xs : List D} {us rest : List Value} (h : RE Γ w esz xs us rest) : ∀ u ∈ us ++ rest, u.oneCell' = true := by
  intro u hu
  rcases List.mem_append.1 hu with hu | hu
  · exact h.r.elemE.2 u hu
  · exact h.one u hu
/-- Where the room is not known, each room that it may be is enough. -/
theorem RefFun.known {f : FuncId} {rs : List D} {id esz off len cap : Nat} {ex : Bool} {xs : List D} {r : D} (ho : σ.obj id = some (.row .own esz xs)) (hle : off + len ≤ xs.length)
    (h : ∀ c, len ≤ c → cap ≤ c → c ≤ maxLen → (ex = true → c = cap) → RefFun P f (.ms id off len c true :: rs) (σ.put id (some (.row .own esz (xs.take (off + len) ++ List.replicate (c - len) (junkE esz))))) r σ') :
    RefFun P f (.ms id off len cap ex :: rs) σ r σ' := by
  intro Γ w vargs hs hargs
  obtain ⟨v, vs, hvs, hv, hrest⟩ := hargs.cons_inv
  obtain ⟨hA, a, c, rfl, h1, h2, h3, h4, h5, h6⟩ := R1.ms.1 hv
  have hez : esz = Γ.ez id := (hs.row _ _ _ _ ho).1.1
  have hz : 0 < esz := (hs.row _ _ _ _ ho).1.2.1
  have hs1 : SR Γ (σ.put id (some (.row .own esz (xs.take (off + len) ++ List.replicate (c - len) (junkE esz))))) w := by
    refine hs.seen ho fun us rest hre hlen => ?_
    have hone := oneCells_of hre
    have hul := hre.r.lengthE
    refine ⟨(us ++ rest).take ((off + c) * esz), (us ++ rest).drop ((off + c) * esz), List.take_append_drop _ _, ?_, fun u hu => hone u (List.mem_of_mem_drop hu)⟩
    have hfit : (off + c) * esz ≤ (us ++ rest).length := by rw [List.length_append, hlen, hez]; exact h5
    have hsplit : (off + c) * esz = (off + len) * esz + (c - len) * esz := by rw [← Nat.add_mul]; congr 1; omega
    have hp : (off + len) * esz ≤ us.length := by rw [hul]; exact Nat.mul_le_mul_right _ hle
    have e : (us ++ rest).take ((off + c) * esz) = us.take ((off + len) * esz) ++ ((us ++ rest).drop ((off + len) * esz)).take ((c - len) * esz) := by
      rw [hsplit, List.take_add, List.take_append_of_le_length hp]
    rw [e]
    refine (hre.r.takeE (off + len) hle).1.appendE (junk_rows hz _ ?_ fun u hu => hone u (List.mem_of_mem_drop (List.mem_of_mem_take hu)))
    rw [List.length_take, List.length_drop]
    omega
  refine (h c h1 h2 h6 h3 Γ w vargs hs1 ?_).mono fun x w' hp => ?_
  · rw [hvs]
    exact R.cons (R1.ms.2 ⟨hA, a, c, rfl, h1, Nat.le_refl _, fun _ => rfl, h4, h5, h6⟩) hrest
  · obtain ⟨v, Γ', e, k1, k2, k3⟩ := hp
    exact ⟨v, Γ', e, k1, k2, reach_own (length_put ..).symm (fun b => own_put ho) k3⟩

/-- An empty slice is nil or not. -/
theorem RefFun.nils {f : FuncId} {rs : List D} {full : Bool} {r : D} (h1 : RefFun P f (.nsl true :: rs) σ r σ') (h2 : RefFun P f (.nsl false :: rs) σ r σ') : RefFun P f (.sl full [] :: rs) σ r σ' := by
  intro Γ w vargs hs hargs
  obtain ⟨v, vs, hvs, hv, hrest⟩ := hargs.cons_inv
  obtain ⟨a, c, sz, us, rfl, _, _, hc, _⟩ := R1.sl.1 hv
  cases a with
  | none => exact h1 Γ w vargs hs (by rw [hvs]; exact R.cons ((R1.atom_iff (d := .nsl true) rfl).2 ⟨c, rfl, hc⟩) hrest)
  | some a => exact h2 Γ w vargs hs (by rw [hvs]; exact R.cons ((R1.atom_iff (d := .nsl false) rfl).2 ⟨a, c, rfl, hc⟩) hrest)
/-! ### less is said of what comes out -/
theorem RefFun.weak {f : FuncId} {ds : List D} {r r' : D} (h : RefFun P f ds σ r σ1)
    (hw : ∀ (Γ1 : Ctx) (w' : World) (v : Value), R1 Γ1 w' r v → SR Γ1 σ1 w' → ∃ Γ', R1 Γ' w' r' v ∧ SR Γ' σ' w' ∧ Reach Γ1 σ1 w' Γ' σ' w') : RefFun P f ds σ r' σ' := by
  intro Γ w vargs hs hargs
  refine (h Γ w vargs hs hargs).mono fun x w' hp => ?_
  obtain ⟨v, Γ1, e, k1, k2, k3⟩ := hp
  obtain ⟨Γ2, l1, l2, l3⟩ := hw Γ1 w' v k1 k2
  exact ⟨v, Γ2, e, l1, l2, k3.trans l3⟩
/-- What was written in place, as a row of its own. -/
theorem inPlace {esz : Nat} {L J : List D} {n c : Nat} {o2 : Option Ob} {v : Value} (hn : n ≤ L.length) (h1 : R1 Γ w (.ms 0 0 n c true) v) (hc : n ≤ c) (hs : SR Γ [some (.row .own esz (L ++ J)), o2] w) :
    ∃ Γ', R1 Γ' w (.ms 2 0 n n false) v ∧ SR Γ' [none, o2, some (.row .own esz L)] w ∧ Reach Γ [some (.row .own esz (L ++ J)), o2] w Γ' [none, o2, some (.row .own esz L)] w := by
  have ho : Store.obj [some (.row .own esz (L ++ J)), o2] 0 = some (.row .own esz (L ++ J)) := rfl
  have hs1 : SR Γ (Store.put [some (.row .own esz (L ++ J)), o2] 0 (some (.row .own esz L))) w := by
    refine hs.seen ho fun us rest hre hlen => ?_
    have hul := hre.r.lengthE
    obtain ⟨a, b, hab, ha, hb⟩ := hre.r.splitE
    refine ⟨a, b ++ rest, by rw [hab, List.append_assoc], ha, fun u hu => ?_⟩
    rcases List.mem_append.1 hu with hu | hu
    · exact hb.elemE.2 u hu
    · exact hre.one u hu
  have hs2 : SR Γ (Store.put [some (.row .own esz (L ++ J)), o2] 0 (some (.row .own esz L)) ++ List.replicate 1 none) w := hs1.pad 1
  have hA2 : ¬ Γ.A 2 := fun h => by have := hs1.below 2 h; simp [Store.put] at this
  obtain ⟨Γ', k1, k2, k3, k4, k5, k6, k7⟩ := hs2.rename (id := 0) (aid := 2) (esz := esz) (xs := L) rfl hA2 (by simp [Store.put])
  obtain ⟨hA, a, c', rfl, l1, l2, l3, l4, l5, l6⟩ := R1.ms.1 h1
  refine ⟨Γ', R1.ms.2 ⟨k3, a, c', rfl, l1, by omega, (fun h => by cases h), ?_, by rw [k5, k6]; exact l5, l6⟩, k1, ?_⟩
  · rcases l4 with l4 | l4
    · exact .inl l4
    · refine .inr (l4.trans ?_)
      simp only [adr, k4, Nat.zero_mul]
  · have hr1 : Reach Γ (Store.put [some (.row .own esz (L ++ J)), o2] 0 (some (.row .own esz L))) w Γ' [none, o2, some (.row .own esz L)] w := by
      obtain ⟨g1, g2, g3, g4, g5, g6, g7, g8, g8d⟩ := k2
      refine ⟨⟨g1, fun b hb => (g2 b hb).imp_right (Or.imp_right own_pad.1), fun b hb => (g3 b hb).imp_left own_pad.1, fun b hb hn => g4 b hb fun h => hn (own_pad.1 h), g5, g6, g7, g8, g8d⟩, by simp [Store.put], fun id hid => ?_⟩
      rcases k7 id hid with h | h
      · exact .inl h
      · exact .inr (by subst h; simp [Store.put])
    exact reach_own (length_put ..).symm (fun b => own_put ho) hr1

/-! ### slices.overlaps -/
theorem overlaps_run {tS tR e : TypeId} (ht : P.underlying tS = some (.slice e)) {size : Nat} (hz : ∀ w, (Go.sizeOf e).run P w = .ok size w) {i oi li ci j oj lj cj ei ej : Nat} {xi xj : Bool} {si sj : St} {xs ys : List D}
    (hi : σ.obj i = some (.row si ei xs)) (hj : σ.obj j = some (.row sj ej ys)) (hij : i ≠ j) (hs : SR Γ σ w) {u v : Value} (hu : R1 Γ w (.ms i oi li ci xi) u) (hv : R1 Γ w (.ms j oj lj cj xj) v) :
    (Extern.SlicesOverlaps.overlaps #[tS, tS] #[tR] #[u, v]).run P w = .ok (.bool false) w := by
  obtain ⟨hA1, a, c1, rfl, a1, a2, a3, a4, a5, a6⟩ := R1.ms.1 hu
  obtain ⟨hA2, b, c2, rfl, b1, b2, b3, b4, b5, b6⟩ := R1.ms.1 hv
  have nil : ∀ (a b : Option Addr), (li = 0 ∨ lj = 0 ∨ a = none ∨ b = none) → (Extern.SlicesOverlaps.overlaps #[tS, tS] #[tR] #[.slice a li c1, .slice b lj c2]).run P w = .ok (.bool false) w := by
    intro a b h
    change Sem.run P (α := Value) (do
      let some t := (#[tS, tS] : Array TypeId)[0]? | stuck "slices.overlaps: no parameter types"
      let .slice elem ← underlying t | stuck "slices.overlaps: slice type expected"
      let size ← sizeOf elem
      match a, b with
      | some a, some b =>
        if li = 0 ∨ lj = 0 ∨ size = 0 then pure (Value.bool false)
        else if a.block != b.block && (← frozen a) && (← frozen b) then unsupported .addressObserved
        else do
          if a.block != b.block then do
            noView a; noView b
            if ← mayBeOne a b then return Value.bool ((← choose (.extern "sameAddr.stringBytes" 2)) == 1)
          pure (Value.bool (a.block == b.block && a.off < b.off + lj * size && b.off < a.off + li * size))
      | _, _ => pure (Value.bool false)) w = _
    cases a with
    | none => simp [run_underlying ht, hz]
    | some a => cases b with
      | none => simp [run_underlying ht, hz]
      | some b =>
        have h0 : li = 0 ∨ lj = 0 ∨ size = 0 := by
          rcases h with h | h | h | h
          · exact .inl h
          · exact .inr (.inl h)
          · cases h
          · cases h
        simp [run_underlying ht, hz, h0]
  rcases a4 with a4 | a4
  · exact nil _ _ (.inl (by omega))
  rcases b4 with b4 | b4
  · exact nil _ _ (.inr (.inl (by omega)))
  subst a4 b4
  obtain ⟨⟨p1, p2, cs1, e1, us1, rest1, p3, p4, p5, p6⟩, _⟩ := hs.row _ _ _ _ hi
  obtain ⟨⟨q1, q2, cs2, e2, us2, rest2, q3, q4, q5, q6⟩, _⟩ := hs.row _ _ _ _ hj
  have hne : Γ.ρ i ≠ Γ.ρ j := fun h => hij (hs.inj _ _ _ _ hi hj h)
  by_cases hk : cs2.size = 0
  · refine nil _ _ (.inr (.inl ?_))
    have : (oj + c2) * Γ.ez j = 0 := by omega
    rcases Nat.mul_eq_zero.1 this with h | h <;> omega
  have hfz : ∀ b o c e, w.heap[b]? = some (.cells c e (0, 0)) → w.frozen? ⟨b, o, none⟩ = false := by
    intro b o c e h
    simp [World.frozen?, h]
  exact Lib.run_overlaps_apart w tS tR e ht size hz (adr Γ i oi 0) (adr Γ j oj 0) li c1 lj c2 hne e1 e2 cs1.size cs2.size (by simp [World.shape?, adr, p3]) (by simp [World.shape?, adr, q3]) hk (hfz _ _ _ _ p3) (hfz _ _ _ _ p3)
theorem overlaps_ref {f : FuncId} {fn : Func} {tS tR e : TypeId} (hf : P.funcs[f]? = some fn) (h1 : (fn.name == "runtime.NumGoroutine") = false) (h2 : fn.body.isNone = true) (h3 : Extern.findNext fn = none) (h4 : Extern.find fn = some (Extern.SlicesOverlaps.overlaps #[tS, tS] #[tR]))
    (ht : P.underlying tS = some (.slice e)) {size : Nat} (hz : ∀ w, (Go.sizeOf e).run P w = .ok size w) {i oi li ci j oj lj cj ei ej : Nat} {xi xj : Bool} {si sj : St} {xs ys : List D}
    (hi : σ.obj i = some (.row si ei xs)) (hj : σ.obj j = some (.row sj ej ys)) (hij : i ≠ j) : RefFun P f [.ms i oi li ci xi, .ms j oj lj cj xj] σ (.bool false) σ := by
  intro Γ w vargs hs hargs
  obtain ⟨u, vs, e1, hu, hr⟩ := hargs.cons_inv
  obtain ⟨v, vs', rfl, hv, hr'⟩ := hr.cons_inv
  rw [hr'.nil_inv] at e1
  have hva : vargs = #[u, v] := by cases vargs; simp_all
  refine .inr ⟨.bool false, w, ?_, .bool false, Γ, rfl, R1.bool.2 rfl, hs, .refl _ _ _⟩
  rw [run_callFunc_extern hf h1 h2 h3 h4, hva, overlaps_run ht hz hi hj hij hs hu hv]
  rfl
end Go.Proofs.Ytfclelafcdcilaa.Dv
/- A function whose first regions leave few states: the rest is computed whole from each. -/
set_option linter.unusedVariables false
set_option linter.unusedSimpArgs false
namespace Go.Proofs.Ytfclelafcdcilaa.Dv
open Go Go.Proofs
section
variable {P : Program} {Γ Γ' Γ1 : Ctx} {w w' : World} {σ σ' σ1 : Store}
/-- The first k pieces of a row of pieces, and what they leave. -/
def wpH (P : Program) (C : WCfg) : Nat → Code → Env → Lits → Store → (Env → Store → Prop) → Prop
  | 0, _, e, _, σ, K => K e σ
  | k + 1, .seq a b, e, L, σ, K => wpC P C a e L σ fun ex e L σ => match ex with
    | .normal => wpH P C k b e L σ K
    | _ => False
  | _ + 1, _, _, _, _, _ => False
def tailN : Nat → Code → Code
  | k + 1, .seq _ b => tailN k b
  | _, c => c
def headOk (C : WCfg) (N : Nat) : Nat → Code → Bool
  | k + 1, .seq a b => goodCode C.M N a && (loops1 C.unr a).isEmpty && headOk C N k b
  | _, _ => true
theorem Tri.seq {n0 N : Nat} {a b : Code} {e : Env} {σ : Store} {Q : PostE} (h : Tri P n0 N a e σ fun ex e σ => match ex with
    | .normal => Tri P n0 N b e σ Q
    | ex => Q ex e σ) : Tri P n0 N (.seq a b) e σ Q := by
  intro Γ0 σ0 w0 Γ w ac K h1 h2 h3 h4 h5 h6 h7
  refine wp_seq ?_
  refine h Γ0 σ0 w0 Γ w ac _ h1 h2 h3 h4 h5 h6 ?_
  intro ex e1 σ1 a1 w1 hq hc
  cases ex with
  | normal =>
    obtain ⟨Γ1, k1, k2, k3, k4, k5⟩ := hc
    refine hq Γ0 σ0 w0 Γ1 w1 a1 _ h1 h2 k3 k1 k2 k4 ?_
    intro ex e' σ' a' w' hQ hc'
    rw [k5] at hc'
    exact h7 ex e' σ' a' w' hQ hc'
  | exit id => exact h7 _ _ _ _ _ hq hc
  | ret => exact h7 _ _ _ _ _ hq hc
theorem wpH_ok {C : WCfg} (hC : SpecsOk P C) (hmix : P.follows .mixedOrders = true) {N : Nat} {Q : PostE} {K : Env → Store → Prop} : ∀ {k : Nat} {c : Code} {e : Env} {L : Lits} {σ : Store}, headOk C N k c = true → wpH P C k c e L σ K → (∀ e σ, K e σ → Tri P C.n0 N (tailN k c) e σ Q) → Tri P C.n0 N c e σ Q := by
  intro k
  induction k with
  | zero =>
    intro c e L σ _ h ht
    have : tailN 0 c = c := by cases c <;> rfl
    rw [this] at ht
    exact ht _ _ h
  | succ k ih =>
    intro c e L σ hg h ht
    cases c with
    | seq a b =>
      simp only [headOk, Bool.and_eq_true, List.isEmpty_iff] at hg
      refine Tri.seq ?_
      refine (wpC_ok hC hmix hg.1.1 (noLoops hg.1.2) h).mono ?_
      rintro ex e σ ⟨L', hq⟩
      cases ex with
      | normal => exact ih hg.2 hq ht
      | exit id => exact hq.elim
      | ret => exact hq.elim
    | _ => exact h.elim
/-- A piece of code that is computed whole. -/
theorem tri_run {M : Modes} (hgood : GoodM P M) (hprim : PrimOk P M) (hmix : P.follows .mixedOrders = true) {N : Nat} {c : Code} {e e' : Env} {σ σ' : Store} (n : Nat) {ex : Ex} (hg : goodCode M N c = true)
    (h : evCode P (callD M (runN P M n).1) (runN P M n).2 c e σ = some (ex, e', σ')) : Tri P 0 N c e σ fun ex1 e1 σ1 => ex1 = ex ∧ e1 = e' ∧ σ1 = σ' := by
  intro Γ0 σ0 w0 Γ w a K h1 h2 h3 h4 h5 h6 h7
  obtain ⟨i1, i2⟩ := sound hgood hprim hmix n
  refine code_sim (callD_ok i1 hprim) i2 hmix c hg h h4 h5 h6 ?_
  intro a' w' hc
  exact h7 ex e' σ' a' w' ⟨rfl, rfl, rfl⟩ (hc.step h3)
/-- What a function's end must be. -/
def endOk (P : Program) (fn : Func) (r : D) : PostE := fun ex e σ => match ex with
  | .exit _ => False
  | _ => ∃ d, resultsD P fn.results.toList e σ = some d ∧ frz 0 σ d = some r
theorem dataFun_tri (hmix : P.follows .mixedOrders = true) {f : FuncId} {fn : Func} {c : Code} (hf : P.funcs[f]? = some fn) (hc : fn.body = some c) (hname : (fn.name != "runtime.NumGoroutine") = true) (hnt : fn.params.size + fn.nfree ≤ fn.ntmps) {args : List D} (hn : args.length = fn.params.size + fn.nfree)
    {r : D} (hr : frz 0 [] r = some r) (h : Tri P 0 fn.ntmps c (entry args) [] (endOk P fn r)) : DataFun P f args r := by
  refine ⟨hr, fun Γ0 w vargs hs hargs => ?_⟩
  refine .inl ⟨⟨fn, hf, by simpa using hname, by rw [hc]; rfl⟩, ?_⟩
  refine calls_of_wp hf hc ?_
  have hlen : args.length = vargs.size := by simpa using hargs.length
  refine h Γ0 [] w Γ0 w _ _ rfl (fun id hid => hs.below id hid) (.refl _ _ _) (entry_slots hargs _) hs (by simp; omega) ?_
  intro ex e' σ' a' w' hq hce
  obtain ⟨Γ', k1, k2, k3, k4, k5⟩ := hce
  have key : (∃ d, resultsD P fn.results.toList e' σ' = some d ∧ frz 0 σ' d = some r) → ∃ v, (results fn a'.tmps).run P w' = .ok v w' ∧ ∃ v' C', Ending.returned v = Ending.returned v' ∧ DataR C' w' r v' ∧ Behind Γ0.C w C' w' := by
    rintro ⟨d, h1, h3⟩
    obtain ⟨v, hv, hrel⟩ := results_ok k2 k1 h1
    refine ⟨v, hv, v, fun b => Γ'.C b ∨ (w.heap.size ≤ b ∧ b < w'.heap.size), rfl, ?_, ?_⟩
    · have htr := k3.tr
      refine frz_ok (Γ' := { Γ' with C := fun b => Γ'.C b ∨ (w.heap.size ≤ b ∧ b < w'.heap.size) }) k2 ⟨fun b hb => .inl hb, fun _ h => h, fun _ _ => rfl, fun _ _ => rfl, fun _ _ => rfl⟩ hrel h3 ?_
      intro id st e xs hst ho
      obtain ⟨⟨_, _, c, _, _, _, hh, _⟩, _, hcst⟩ := k2.row _ _ _ _ ho
      have hlt := (Array.getElem?_eq_some_iff.1 hh).1
      cases st with
      | own =>
        rcases htr.own _ ⟨id, e, xs, ho, rfl⟩ with h | h
        · obtain ⟨id', _, _, ho', _⟩ := h; simp [Store.obj] at ho'
        · exact .inr ⟨h, hlt⟩
      | cst => exact .inl (hcst rfl)
      | shut => exact absurd rfl hst
    · have htr := k3.tr
      have hno : ∀ b, ¬ Own Γ0 [] b := by rintro b ⟨id', _, _, ho', _⟩; simp [Store.obj] at ho'
      refine ⟨fun b hb => ?_, fun b hb => .inl (htr.agree.C b hb), fun b hb => htr.kept b hb (hno b), htr.os, htr.tape, htr.output, htr.size, htr.drawn⟩
      rcases hb with hb | hb
      · refine ⟨?_, k2.old b hb⟩
        rcases htr.cnew b hb with h | h | h
        · exact .inl h
        · exact .inr h
        · exact absurd h (hno _)
      · exact ⟨.inr hb.1, hb.2⟩
  cases ex with
  | exit id => exact hq.elim
  | normal => obtain ⟨v, hv, v', C', e1, h5, h6⟩ := key hq; injection e1 with e1; subst e1; exact ⟨k5, v, hv, v, C', rfl, h5, h6⟩
  | ret => obtain ⟨v, hv, v', C', e1, h5, h6⟩ := key hq; injection e1 with e1; subst e1; exact ⟨k5, v, hv, v, C', rfl, h5, h6⟩
/-- The rest of a function, computed whole, and what it hands out. -/
noncomputable def restRun (P : Program) (M : Modes) (n : Nat) (fn : Func) (k : Nat) (T : List (Nat × D)) (S : Store) : Option D :=
  match evCode P (callD M (runN P M n).1) (runN P M n).2 (tailN k (bodyOf fn)) (tb T) S with
  | some (.exit _, _, _) => none
  | some (_, e, σ) => (resultsD P fn.results.toList e σ).bind fun d => frz 0 σ d
  | none => none
theorem rest_tri {M : Modes} (hgood : GoodM P M) (hprim : PrimOk P M) (hmix : P.follows .mixedOrders = true) {fn : Func} {k n : Nat} {T : List (Nat × D)} {S : Store} {r : D} (hg : goodCode M fn.ntmps (tailN k (bodyOf fn)) = true) (h : restRun P M n fn k T S = some r) :
    Tri P 0 fn.ntmps (tailN k (bodyOf fn)) (tb T) S (endOk P fn r) := by
  unfold restRun at h
  split at h
  · cases h
  · rename_i ex e σ hne hev
    obtain ⟨d, h1, h2⟩ := Option.bind_eq_some_iff.1 h
    refine (tri_run hgood hprim hmix n hg hev).mono ?_
    rintro ex1 e1 σ1 ⟨rfl, rfl, rfl⟩
    cases ex1 with
    | exit id => exact (hne id rfl).elim
    | normal => exact ⟨d, h1, h2⟩
    | ret => exact ⟨d, h1, h2⟩
  · cases h
end
/-- A function of which the first k pieces leave one of few states, named by a. -/
theorem dataFunH {C : WCfg} (hC : SpecsOk Try.prog C) (h0 : C.n0 = 0) {M : Modes} (hgood : GoodM Try.prog M) (hprim : PrimOk Try.prog M) {f : FuncId} {fn : Func} (hf : Try.prog.funcs[f]? = some fn) (k n : Nat)
    (hname : (fn.name != "runtime.NumGoroutine") = true) (hb : fn.body.isSome = true) (hnt : decide (fn.params.size + fn.nfree ≤ fn.ntmps) = true) (hh : headOk C fn.ntmps k (bodyOf fn) = true) (hg : goodCode M fn.ntmps (tailN k (bodyOf fn)) = true)
    {args : List D} (hn : args.length = fn.params.size + fn.nfree) {r : D} (hr : frz 0 [] r = some r) {α : Type} (ok : α → Prop) (src : List (Nat × Bool)) (T : α → List (Nat × D)) (S : α → Store)
    (hrun : ∀ a, ok a → restRun Try.prog M n fn k (T a) (S a) = some r)
    {q : Prop} (h : wpH Try.prog C k (bodyOf fn) (entry args) (fun _ => .no) [] (fun e σ => ∃ a, ok a ∧ Wk 0 src e σ (T a) (S a)) = q) (hq : q) : DataFun Try.prog f args r := by
  cases hc : fn.body with
  | none => rw [hc] at hb; cases hb
  | some c =>
    have hbo : bodyOf fn = c := by unfold bodyOf; rw [hc]
    refine dataFun_tri mix hf hc hname (of_decide_eq_true hnt) hn hr ?_
    rw [hbo] at hh hg h
    have h := of_nf h hq
    have htri := wpH_ok hC mix hh h (Q := endOk Try.prog fn r) ?_
    · rw [h0] at htri; exact htri
    rw [h0]
    rintro e σ ⟨a, ha, hw⟩
    have hr1 := rest_tri hgood hprim mix (by rw [hbo]; exact hg) (hrun a ha)
    rw [hbo] at hr1
    exact Tri.weak hw hr1
end Go.Proofs.Ytfclelafcdcilaa.Dv
