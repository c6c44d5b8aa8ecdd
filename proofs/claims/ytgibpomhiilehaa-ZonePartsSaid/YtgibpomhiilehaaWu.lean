/- Words for proofs over what is computed. -/
import Derived.Test.YtgibpomhiilehaaWf
import Derived.Test.YtgibpomhiilehaaProg
import Derived.KernelRfl
set_option linter.unusedVariables false
set_option linter.unusedSimpArgs false
namespace Go.Proofs.Ytgibpomhiilehaa.Dv
open Go Go.Proofs
abbrev nilT (α : Type) : List α := []
theorem of_nf {p q : Prop} (h : p = q) (hq : q) : p := h ▸ hq
theorem mix : Try.prog.follows .mixedOrders = true := by kernel_rfl
def loops1 (u : Nat → Nat) : Code → List Code
  | .seq a b => loops1 u a ++ loops1 u b
  | .cond _ a b => loops1 u a ++ loops1 u b
  | .block _ c => loops1 u c
  | .scope c => loops1 u c
  | .loop c => match u (keyOf c) with | 0 => [c] | _ + 1 => loops1 u c
  | _ => []
theorem loopsIn_of {u : Nat → Nat} {T : Code → Prop} : ∀ {c : Code} {l : List Code}, loops1 u c = l → (∀ x ∈ l, T x) → LoopsIn u T c := by
  intro c
  induction c with
  | seq a b iha ihb =>
    intro l h hl
    simp only [loops1] at h
    subst h
    exact ⟨iha rfl fun x hx => hl x (List.mem_append_left _ hx), ihb rfl fun x hx => hl x (List.mem_append_right _ hx)⟩
  | cond _ a b iha ihb =>
    intro l h hl
    simp only [loops1] at h
    subst h
    exact ⟨iha rfl fun x hx => hl x (List.mem_append_left _ hx), ihb rfl fun x hx => hl x (List.mem_append_right _ hx)⟩
  | block _ c ih => intro l h hl; exact ih h hl
  | scope c ih => intro l h hl; exact ih h hl
  | loop c ih =>
    intro l h hl
    unfold loops1 at h
    split at h
    · rename_i h0; subst h; exact ⟨fun _ => hl c (List.mem_singleton_self c), fun h => absurd h0 h⟩
    · rename_i h0; exact ⟨fun h => by omega, fun _ => ih h hl⟩
  | _ => intros; trivial
theorem noLoops {u : Nat → Nat} {T : Code → Prop} {c : Code} (h : loops1 u c = []) : LoopsIn u T c := loopsIn_of h (by simp)
theorem loopFits_of {P : Program} {C : WCfg} {N : Nat} {c : Code} (k : Nat) {row : LRow} (hk : keyOf c = k) (hrow : C.loops k = some row)
    (h : ∀ b, row.pre b → Tri P C.n0 N (.loop c) (tb (row.T b)) (row.S b) fun ex e σ => ∃ o ∈ row.outs, ∃ a, o.post b a ∧ ex = o.ex ∧ ∃ src, Wk C.n0 src e σ (o.T b a) (o.S b a)) : LoopFits P C N c := by
  intro row' hr
  rw [hk, hrow] at hr
  injection hr with hr
  subst hr
  exact h
/-- A function without loops. -/
theorem dataFun0 {C : WCfg} (hC : SpecsOk Try.prog C) (h0 : C.n0 = 0) {f : FuncId} {fn : Func} (hf : Try.prog.funcs[f]? = some fn) (hg : goodFn C.M fn = true) (hl : loops1 C.unr (bodyOf fn) = []) {args : List D} (hn : args.length = fn.params.size + fn.nfree)
    {r : D} (hr : frz 0 [] r = some r) {q : Prop} (h : wpF Try.prog C fn args r = q) (hq : q) : DataFun Try.prog f args r := dataFun_ok hC mix h0 hf hg (noLoops hl) hn hr (of_nf h hq)
/-- A function with loops. -/
theorem dataFunL {C : WCfg} (hC : SpecsOk Try.prog C) (h0 : C.n0 = 0) {f : FuncId} {fn : Func} (hf : Try.prog.funcs[f]? = some fn) (hg : goodFn C.M fn = true) {l : List Code} (hl : loops1 C.unr (bodyOf fn) = l) (hT : ∀ x ∈ l, LoopFits Try.prog C fn.ntmps x) {args : List D} (hn : args.length = fn.params.size + fn.nfree)
    {r : D} (hr : frz 0 [] r = some r) {q : Prop} (h : wpF Try.prog C fn args r = q) (hq : q) : DataFun Try.prog f args r := dataFun_ok hC mix h0 hf hg (loopsIn_of hl hT) hn hr (of_nf h hq)
/-- A loop's round without loops. -/
theorem round0 {C : WCfg} (hC : SpecsOk Try.prog C) {N : Nat} {c : Code} {T : List (Nat × D)} {Sg : Store} {Q : PostE} (hg : goodCode C.M N c = true) (hl : loops1 C.unr c = []) {q : Prop} (h : wpR Try.prog C c T Sg Q = q) (hq : q) : Tri Try.prog C.n0 N c (tb T) Sg Q :=
  wpR_ok hC mix hg (noLoops hl) (of_nf h hq)
theorem roundL {C : WCfg} (hC : SpecsOk Try.prog C) {N : Nat} {c : Code} {T : List (Nat × D)} {Sg : Store} {Q : PostE} (hg : goodCode C.M N c = true) {l : List Code} (hl : loops1 C.unr c = l) (hT : ∀ x ∈ l, LoopFits Try.prog C N x) {q : Prop} (h : wpR Try.prog C c T Sg Q = q) (hq : q) : Tri Try.prog C.n0 N c (tb T) Sg Q :=
  wpR_ok hC mix hg (loopsIn_of hl hT) (of_nf h hq)

/-! ### contracts of functions -/
structure Ctr where
  f : FuncId
  s : List D → Option DOut
  ok : ∀ vs o, s vs = some o → o.pre → DataFun Try.prog f vs o.r
def specOf (l : List Ctr) : SpecD := fun f vs => l.findSome? fun c => match c.f == f with
  | true => c.s vs
  | false => none
theorem ctrs_ok {C : WCfg} (l : List Ctr) (h : C.spec = specOf l) (hb : C.byref = fun _ => false) : SpecsOk Try.prog C := by
  constructor
  · intro g vs o ho hp
    rw [h] at ho
    unfold specOf at ho
    obtain ⟨c, _, hc⟩ := List.exists_of_findSome?_eq_some ho
    split at hc
    · rename_i he
      rw [beq_iff_eq] at he
      subst he
      exact c.ok vs o hc hp
    · cases hc
  · intro g vs σ p r σ' hr; rw [hb] at hr; cases hr
  · intro g vs σ p r σ' hr; rw [hb] at hr; cases hr
/-- Loops. -/
structure WOut (O : Type) where
  α : Type
  is : O → α → Prop
  ex : Ex
  src : List (Nat × Bool) := []
  T : α → List (Nat × D)
  S : α → Store := fun _ => []
structure WLoop where
  St : Type
  O : Type
  T : St → List (Nat × D)
  S : St → Store := fun _ => []
  ok : St → Prop
  μ : St → Nat
  m : St → O
  src : List (Nat × Bool) := []
  alts : List (List (Nat × Bool)) := []
  outs : List (WOut O)
def hasEx {O : Type} (ex : Ex) (l : List (WOut O)) : Bool := l.any fun x => decide (x.ex = ex)
/-- One of the ways out by this exit. -/
def endR {O : Type} (n0 : Nat) (outs : List (WOut O)) (o : O) : PostE := fun ex e σ => match outs with
  | [] => False
  | x :: r => match decide (x.ex = ex) with
    | true => (match hasEx ex r with
      | true => (∃ a : x.α, x.is o a ∧ Wk n0 x.src e σ (x.T a) (x.S a)) ∨ endR n0 r o ex e σ
      | false => ∃ a : x.α, x.is o a ∧ Wk n0 x.src e σ (x.T a) (x.S a))
    | false => endR n0 r o ex e σ
theorem endR_out {O : Type} {n0 : Nat} {o : O} {ex : Ex} {e : Env} {σ : Store} : ∀ {outs : List (WOut O)}, endR n0 outs o ex e σ → ∃ x ∈ outs, x.ex = ex ∧ ∃ a : x.α, x.is o a ∧ Wk n0 x.src e σ (x.T a) (x.S a)
  | [], h => h.elim
  | x :: r, h => by
    unfold endR at h
    split at h
    · rename_i hx
      have hx := of_decide_eq_true hx
      split at h
      · rcases h with h | h
        · exact ⟨x, List.mem_cons_self .., hx, h⟩
        · obtain ⟨y, hy, h⟩ := endR_out h
          exact ⟨y, List.mem_cons_of_mem _ hy, h⟩
      · exact ⟨x, List.mem_cons_self .., hx, h⟩
    · obtain ⟨y, hy, h⟩ := endR_out h
      exact ⟨y, List.mem_cons_of_mem _ hy, h⟩
/-- By one of these. -/
def altQ (f : List (Nat × Bool) → Prop) (s : List (Nat × Bool)) (r : List (List (Nat × Bool))) : Prop := match r with
  | [] => f s
  | s' :: r => f s ∨ altQ f s' r
theorem altQ_ex {f : List (Nat × Bool) → Prop} : ∀ {r : List (List (Nat × Bool))} {s : List (Nat × Bool)}, altQ f s r → ∃ s, f s
  | [], s, h => ⟨s, h⟩
  | s' :: r, s, h => by
    rcases h with h | h
    · exact ⟨_, h⟩
    · exact altQ_ex h
def WLoop.q (L : WLoop) (n0 : Nat) (s : L.St) : PostE := fun ex e σ => match ex with
  | .normal => altQ (fun src => ∃ s' : L.St, L.ok s' ∧ L.μ s' < L.μ s ∧ L.m s' = L.m s ∧ Wk n0 src e σ (L.T s') (L.S s')) L.src L.alts
  | ex => endR n0 L.outs (L.m s) ex e σ
def WOut.of {L : WLoop} (o : WOut L.O) : LOut L.St := { α := o.α, post := fun s a => o.is (L.m s) a, ex := o.ex, T := fun _ a => o.T a, S := fun _ a => o.S a }
def WLoop.row (L : WLoop) (src0 : List (Nat × Bool)) : LRow := { β := L.St, pre := L.ok, src := src0, T := L.T, S := L.S, outs := L.outs.map WOut.of }
theorem WLoop.fits (L : WLoop) {P : Program} {C : WCfg} {N : Nat} {c : Code} (k : Nat) (src0 : List (Nat × Bool)) (hk : keyOf c = k) (hrow : C.loops k = some (L.row src0)) (h : ∀ s, L.ok s → Tri P C.n0 N c (tb (L.T s)) (L.S s) (L.q C.n0 s)) : LoopFits P C N c := by
  refine loopFits_of k hk hrow fun s hs => ?_
  have := Tri.loop (P := P) (n0 := C.n0) (N := N) (c := c) (S := { s : L.St // L.ok s }) (fun s => L.T s.1) (fun s => L.S s.1) (fun s => L.μ s.1) (fun s => endR C.n0 L.outs (L.m s.1)) ?_ ⟨s, hs⟩
  · refine this.mono fun ex e σ he => ?_
    obtain ⟨x, hx, hxe, a, h1, h2⟩ := endR_out he
    exact ⟨WOut.of x, List.mem_map_of_mem hx, a, h1, hxe.symm, _, h2⟩
  · rintro ⟨s, hs⟩
    refine (h s hs).mono fun ex e σ hq => ?_
    cases ex with
    | normal =>
      obtain ⟨_, s', h1, h2, h3, h4⟩ := altQ_ex hq
      exact ⟨⟨s', h1⟩, h2, fun ex e σ hh => by simp only at hh ⊢; rw [h3] at hh; exact hh, _, h4⟩
    | exit id => exact hq
    | ret => exact hq
/-- Tests of a law. -/
theorem chk {c : Prop} [Decidable c] {A X : Prop} (hc : c) (hA : A) : (decide c = true → A) ∧ (decide c = false → X) := ⟨fun _ => hA, fun h => absurd hc (of_decide_eq_false h)⟩
theorem chkn {c : Prop} [Decidable c] {A X : Prop} (hc : ¬c) (hX : X) : (decide c = true → A) ∧ (decide c = false → X) := ⟨fun h => absurd (of_decide_eq_true h) hc, fun _ => hX⟩
theorem chkb {c : Bool} {A X : Prop} (hc : c = true) (hA : A) : (c = true → A) ∧ (c = false → X) := ⟨fun _ => hA, fun h => (by rw [hc] at h; cases h)⟩
theorem chkf {c : Bool} {A X : Prop} (hc : c = false) (hX : X) : (c = true → A) ∧ (c = false → X) := ⟨fun h => (by rw [hc] at h; cases h), fun _ => hX⟩
theorem chks {c : Prop} [Decidable c] {A X : Prop} (hA : c → A) (hX : ¬c → X) : (decide c = true → A) ∧ (decide c = false → X) := ⟨fun h => hA (of_decide_eq_true h), fun h => hX (of_decide_eq_false h)⟩
/-- What is gathered: nothing yet, or a row of one's own. -/
def outD (id : Nat) (l : List D) : D := match l with
  | [] => .sl true []
  | _ :: _ => .ms id 0 l.length l.length false
def outO (sz : Nat) (l : List D) : Option Ob := match l with
  | [] => none
  | _ :: _ => some (.row .own sz l)
theorem outD_snoc (id : Nat) (l : List D) (x : D) : outD id (l ++ [x]) = .ms id 0 (l.length + 1) (l.length + 1) false := by cases l <;> simp [outD]
theorem outO_snoc (sz : Nat) (l : List D) (x : D) : outO sz (l ++ [x]) = some (.row .own sz (l ++ [x])) := by cases l <;> simp [outO]

/-! ### whole numbers and lists of them -/
def iD (n : Int) : D := .int .i64 n
def dI : D → Int
  | .int _ n => n
  | _ => 0
theorem dI_iD (n : Int) : dI (iD n) = n := rfl
theorem map_dI (l : List Int) : (l.map iD).map dI = l := by rw [List.map_map]; exact (List.map_congr_left fun x _ => rfl).trans (List.map_id l)
theorem pure_iD (l : List Int) : (l.map iD).all D.pure = true := by rw [List.all_eq_true]; intro x hx; obtain ⟨n, _, rfl⟩ := List.mem_map.1 hx; rfl
theorem okEl_iD (l : List Int) : (l.map iD).all (okEl 1) = true := by rw [List.all_eq_true]; intro x hx; obtain ⟨n, _, rfl⟩ := List.mem_map.1 hx; rfl
theorem get_mid {α β : Type} (g : α → β) (a : List α) (x : α) (b : List α) : ((a ++ x :: b).map g)[a.length]? = some (g x) := by simp
theorem get_midI {α β : Type} (g : α → β) (a : List α) (x : α) (b : List α) : ((a ++ x :: b).map g)[((a.length : Int)).toNat]? = some (g x) := by simp
end Go.Proofs.Ytgibpomhiilehaa.Dv
