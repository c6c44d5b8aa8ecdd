/- Evaluation along one path: what is answered ahead is asked for as a test. -/
import Derived.Test.YtfjgngdomjjpgaaDvTop
set_option linter.unusedVariables false
set_option linter.unusedSimpArgs false
namespace Go.Proofs.Ytfjgngdomjjpgaa.Dv
open Go

inductive AnsK where
  | b (x : Bool) | d (x : D) | ok | v (v : D) (σ : Store) (f : Foot) | l (ex : Ex) (e : Env) (σ : Store) | si (n : Int) | ss (s : ByteArray) | sx (xs : List D) | sb (x : Bool)
structure Ans where
  tag : Nat
  a : AnsK
abbrev O (α : Type) := List Ans → Option (α × List Ans × List Prop)
def All : List Prop → Prop
  | [] => True
  | p :: ps => p ∧ All ps
theorem All.app {ps qs : List Prop} (h : All (ps ++ qs)) : All ps ∧ All qs := by
  induction ps with
  | nil => exact ⟨trivial, h⟩
  | cons p ps ih => exact ⟨⟨h.1, (ih h.2).1⟩, (ih h.2).2⟩
def O.pure {α : Type} (a : α) : O α := fun π => some (a, π, [])
def O.lift {α : Type} (o : Option α) : O α := fun π => match o with
  | some a => some (a, π, [])
  | none => none
def O.bind {α β : Type} (m : O α) (f : α → O β) : O β := fun π => match m π with
  | some (a, π1, t1) => match f a π1 with
    | some (b, π2, t2) => some (b, π2, t1 ++ t2)
    | none => none
  | none => none
/-- It says so: where the tests hold. -/
def Says {α : Type} (m : O α) (a : α) : Prop := ∃ π π' ts, m π = some (a, π', ts) ∧ All ts
theorem Says.bind {α β : Type} {m : O α} {f : α → O β} {b : β} (h : Says (m.bind f) b) : ∃ a, Says m a ∧ Says (f a) b := by
  obtain ⟨π, π', ts, h, ha⟩ := h
  unfold O.bind at h
  split at h
  · rename_i a π1 t1 h1
    split at h
    · rename_i b' π2 t2 h2
      injection h with h; injection h with e1 h; injection h with e2 e3
      subst e1 e2 e3
      exact ⟨a, ⟨_, _, _, h1, ha.app.1⟩, ⟨_, _, _, h2, ha.app.2⟩⟩
    · cases h
  · cases h
theorem Says.pure {α : Type} {a b : α} (h : Says (O.pure a) b) : b = a := by
  obtain ⟨π, π', ts, h, _⟩ := h
  injection h with h; injection h with h _
  exact h.symm
theorem Says.lift {α : Type} {o : Option α} {b : α} (h : Says (O.lift o) b) : o = some b := by
  obtain ⟨π, π', ts, h, _⟩ := h
  unfold O.lift at h
  split at h
  · injection h with h; injection h with h _; rw [h]
  · cases h
theorem Says.none {α : Type} {b : α} (h : Says (fun _ => none) b) : False := by
  obtain ⟨π, π', ts, h, _⟩ := h
  cases h
/-- A test; its slot is then known. -/
def askE (e : Env) (tag : Nat) (b : Bool) : O (Bool × Env) := fun π => match π with
  | ⟨t, .b x⟩ :: π' => if t = tag then some ((x, e.put tag (.bool x)), π', [b = x]) else some ((b, e), π, [])
  | π => some ((b, e), π, [])
theorem put_self {e : Env} {t : Nat} {v : D} (h : e t = v) : e.put t v = e := by
  funext i
  unfold Env.put
  split
  · rename_i hi; rw [hi, h]
  · rfl
theorem Says.askE {e e' : Env} {tag : Nat} {b x : Bool} (he : e tag = .bool b) (h : Says (askE e tag b) (x, e')) : x = b ∧ e' = e := by
  obtain ⟨π, π', ts, h, ha⟩ := h
  unfold Dv.askE at h
  split at h
  · split at h
    · injection h with h; injection h with e1 h; injection h with e2 e3
      injection e1 with e1 e4
      subst e1 e2 e3 e4
      have hb := ha.1
      rw [← hb]
      exact ⟨rfl, put_self he⟩
    · injection h with h; injection h with e1 h; injection e1 with e1 e4; exact ⟨e1.symm, e4.symm⟩
  · injection h with h; injection h with e1 h; injection e1 with e1 e4; exact ⟨e1.symm, e4.symm⟩
def need (p : Prop) : O Unit := fun π => some ((), π, [p])
theorem Says.need {p : Prop} {u : Unit} (h : Says (need p) u) : p := by
  obtain ⟨π, π', ts, h, ha⟩ := h
  injection h with h; injection h with e1 h; injection h with e2 e3
  subst e3
  exact ha.1

/-! ### operations -/
abbrev SpecF := FuncId → List D → Option (List Prop × D)
def tagOf (o : Oper) : Nat :=
  match o.dst with
  | some d => d
  | none => 100000
def loadO (T : TI) (a : D) (x : D) (σ : Store) : Option (D × Foot × Prop) :=
  match a with
  | .ptr id i j => match σ.obj id with
    | some (.row _ _ xs) => (sub T x j).map fun v => (v, .rd id, xs[i]? = some x)
    | _ => none
  | _ => none
def idxO (P : Program) (t : TypeId) (a ix : D) (y : D) : Option (D × Prop) :=
  match (ti P t).k, a, ix with
  | .sl e, .sl _ xs, .int _ n => if y.cells.length = (ti P e).sz ∧ 0 < (ti P e).sz then some (.cpt y 0, 0 ≤ n ∧ xs[n.toNat]? = some y) else none
  | _, _, _ => none
def divO (op : BinOp) (x y : D) : Option (D × Prop) :=
  match op, x, y with
  | .quo, .int k a, .int k' b => if k = k' then some (.int k (k.wrap (a.tdiv b)), b ≠ 0) else none
  | .rem, .int k a, .int k' b => if k = k' then some (.int k (a.tmod b), b ≠ 0) else none
  | .shl, .int k a, .int _ b => some (.int k (k.wrap (a * 2 ^ (min b.toNat k.bits))), 0 ≤ b)
  | .shr, .int k a, .int _ b => some (.int k (a.fdiv (2 ^ (min b.toNat k.bits))), 0 ≤ b)
  | _, _, _ => none
/-- An operation, with what is answered ahead. -/
def withAns (P : Program) (call : CallF) (o : Oper) (e : Env) (aid : Nat) (σ : Store) (k : AnsK) : Option ((D × Store × Foot) × Prop) :=
  match k with
  | .v v σ' f => some ((v, σ', f), step P call o e aid σ = some (v, σ', f))
  | .d x => match o.op with
    | .load t a => (loadO (ti P t) (opnd e a) x σ).map fun r => ((r.1, σ, r.2.1), r.2.2)
    | .indexAddr t a ix => (idxO P t (opnd e a) (opnd e ix) x).map fun r => ((r.1, σ, .none), r.2)
    | _ => none
  | .ok => match o.op with
    | .binOp op _ x y _ => (divO op (opnd e x) (opnd e y)).map fun r => ((r.1, σ, .none), r.2)
    | _ => none
  | _ => none
/-- A call of data. -/
def goO (spec : SpecF) (g : FuncId) (args : List D) (σ : Store) : Option ((D × Store) × List Prop) :=
  if (args.map fun d => (lend σ d).1).all D.free then
    match spec g (args.map fun d => (lend σ d).1) with
    | some (ts, r) => (σ.behind (args.flatMap fun d => (lend σ d).2) r).map fun σ' => ((r, σ'), ts)
    | none => none
  else none
def plainO (P : Program) (spec : SpecF) (o : Oper) (e : Env) (aid : Nat) (σ : Store) : O (D × Store × Foot) :=
  match o.op with
  | .call { callee := .value f, args, argTypes } => match evCallee e { callee := .value f, args, argTypes } with
    | some (g, as) => match goO spec g as σ with
      | some ((r, σ'), ts) => fun π => some ((r, σ', .wrAll), π, ts)
      | none => fun _ => none
    | none => fun _ => none
  | .pick c a b => match c with
    | .tmp d => match e d with
      | .bool t => (askE e d t).bind fun r => .pure (match r.1 with | true => opnd e a | false => opnd e b, σ, .none)
      | _ => fun _ => none
    | _ => .lift (evOp P o e aid σ)
  | _ => .lift (evOp P o e aid σ)
def AnsK.isOp : AnsK → Bool
  | .d _ | .ok | .v .. => true
  | _ => false
/-- What is computed is given a name. -/
def sameO (tag : Nat) (r : D × Store × Foot) : O (D × Store × Foot) := fun π =>
  match π with
  | ⟨t, .si n⟩ :: π' => if t = tag then match r.1 with
      | .int k a => some ((.int k n, r.2), π', [a = n])
      | _ => none
    else some (r, π, [])
  | ⟨t, .sb n⟩ :: π' => if t = tag then match r.1 with
      | .bool a => some ((.bool n, r.2), π', [a = n])
      | _ => none
    else some (r, π, [])
  | ⟨t, .ss n⟩ :: π' => if t = tag then match r.1 with
      | .str a => some ((.str n, r.2), π', [a = n])
      | _ => none
    else some (r, π, [])
  | ⟨t, .sx n⟩ :: π' => if t = tag then match r.1 with
      | .sl f a => some ((.sl f n, r.2), π', [a = n])
      | _ => none
    else some (r, π, [])
  | π => some (r, π, [])
theorem sameO_ok {tag : Nat} {r r' : D × Store × Foot} (h : Says (sameO tag r) r') : r' = r := by
  obtain ⟨π, π', ts, h, ha⟩ := h
  obtain ⟨d, q⟩ := r
  unfold sameO at h
  split at h
  all_goals try
    (split at h
     · split at h
       · rename_i heq
         injection h with h; injection h with e1 h; injection h with e2 e3
         simp only at heq
         subst heq e1 e3
         rw [show _ = _ from ha.1]
       · cases h
     · injection h with h; injection h with e1 h; exact e1.symm)
  injection h with h; injection h with e1 h; exact e1.symm
def step1 (P : Program) (call : CallF) (spec : SpecF) (o : Oper) (e : Env) (aid : Nat) (σ : Store) : O (D × Store × Foot) := fun π =>
  match π with
  | ⟨t, k⟩ :: π' => if t = tagOf o ∧ k.isOp = true then match withAns P call o e aid σ k with
      | some (r, p) => some (r, π', [p])
      | none => none
    else plainO P spec o e aid σ π
  | [] => plainO P spec o e aid σ []
def stepO (P : Program) (call : CallF) (spec : SpecF) (o : Oper) (e : Env) (aid : Nat) (σ : Store) : O (D × Store × Foot) := (step1 P call spec o e aid σ).bind (sameO (tagOf o))
def wantsO (ops : Array Oper) (e : Env) (o : Oper) : O (Bool × Env) :=
  match o.guard with
  | none => .pure (true, e)
  | some (g, want) => match (ops[g]?).bind (·.dst) with
    | some d => match e d with
      | .bool b => (askE e d b).bind fun r => .pure (r.1 == want, r.2)
      | .undef => .pure (false, e)
      | _ => fun _ => none
    | none => fun _ => none
def evLO (P : Program) (call : CallF) (spec : SpecF) (ops : Array Oper) : List Oper → Nat → Env → Store → O (Env × Store)
  | [], _, e, σ => .pure (e, σ)
  | o :: rest, aid, e, σ => (wantsO ops e o).bind fun we =>
    let e := we.2
    match we.1 with
    | true => (stepO P call spec o e aid σ).bind fun r => evLO P call spec ops rest (if allocs o then aid + 1 else aid) (putO e o.dst r.1) r.2.1
    | false => evLO P call spec ops rest (if allocs o then aid + 1 else aid) (putO e o.dst .undef) σ
def loopO (loop : LoopF) (c : Code) (e : Env) (σ : Store) : O Res := fun π =>
  match π with
  | ⟨_, .l ex e' σ'⟩ :: π' => some ((ex, e', σ'), π', [loop c e σ = some (ex, e', σ')])
  | _ => none
def calm (ops : Array Oper) (draw : Bool) : Bool := !draw || (badPairs ops).isEmpty
def calmCode : Code → Bool
  | .region _ ops draw => calm ops draw
  | .seq a b => calmCode a && calmCode b
  | .cond _ a b => calmCode a && calmCode b
  | .block _ c => calmCode c
  | _ => true
def calmFn (fn : Func) : Bool := match fn.body with
  | some c => calmCode c
  | none => true
def evCodeO (P : Program) (call : CallF) (spec : SpecF) (loop : LoopF) (q : Bool) : Code → Env → Store → O Res
  | .skip, e, σ => .pure (.normal, e, σ)
  | .label _, e, σ => .pure (.normal, e, σ)
  | .ret, e, σ => .pure (.ret, e, σ)
  | .exit id, e, σ => .pure (.exit id, e, σ)
  | .region _ ops draw, e, σ =>
    let k := (evLO P call spec ops ops.toList σ.length e (σ ++ List.replicate (nallocs ops.toList) Option.none)).bind fun r => .pure (.normal, r.1, r.2)
    match q with
    | true => k
    | false => (need (drawOk P call ops draw e σ = true)).bind fun _ => k
  | .seq a b, e, σ => (evCodeO P call spec loop q a e σ).bind fun r => match r with
    | (.normal, e', σ') => evCodeO P call spec loop q b e' σ'
    | r => .pure r
  | .cond c a b, e, σ => match c with
    | .tmp d => match e d with
      | .bool t => (askE e d t).bind fun r => match r.1 with
        | true => evCodeO P call spec loop q a r.2 σ
        | false => evCodeO P call spec loop q b r.2 σ
      | _ => fun _ => none
    | c => match opnd e c with
      | .bool true => evCodeO P call spec loop q a e σ
      | .bool false => evCodeO P call spec loop q b e σ
      | _ => fun _ => none
  | .block id c, e, σ => (evCodeO P call spec loop q c e σ).bind fun r => match r with
    | (.exit id', e', σ') => .pure (if id' = id then (.normal, e', σ') else (.exit id', e', σ'))
    | r => .pure r
  | .loop c, e, σ => loopO loop c e σ
  | _, _, _ => fun _ => none
def fnO (P : Program) (call : CallF) (spec : SpecF) (loop : LoopF) (q : Bool) (fn : Func) (args : List D) : O D :=
  match fn.body with
  | some c => (evCodeO P call spec loop q c (entry args) []).bind fun r => match r with
    | (.normal, e, σ) | (.ret, e, σ) => match resultsD P fn.results.toList e σ with
      | some d => .lift (frz 0 σ d)
      | none => fun _ => none
    | _ => fun _ => none
  | none => fun _ => none

/-! ### it is what the evaluator says -/
section
variable {P : Program} {M : Modes} {call : CallF} {spec : SpecF} {loop : LoopF} {ops : Array Oper}
/-- What a function makes of data. -/
def Fun (P : Program) (M : Modes) (g : FuncId) (as : List D) (r : D) : Prop := M.prim g = none ∧ M.byref g = false ∧ ∃ r0 τ, run P M g as [] = some (r0, τ) ∧ frz 0 τ r0 = some r
def SpecOk (P : Program) (M : Modes) (spec : SpecF) : Prop := ∀ g as ts r, spec g as = some (ts, r) → All ts → Fun P M g as r
theorem goO_ok (hs : SpecOk P M spec) {g : FuncId} {args : List D} {σ σ' : Store} {r : D} {ts : List Prop} (h : goO spec g args σ = some ((r, σ'), ts)) (ha : All ts) : CR P M g args σ = some (r, σ') := by
  unfold goO at h
  split at h
  · rename_i hf
    split at h
    · rename_i ts' r' hsp
      obtain ⟨s, hb, he⟩ := Option.map_eq_some_iff.1 h
      injection he with h1 h2
      injection h1 with h1 h3
      subst h1 h2 h3
      obtain ⟨k1, k2, r0, τ, k3, k4⟩ := hs _ _ _ _ hsp ha
      unfold CR callD
      simp only [k1, k2, Bool.false_eq_true, if_false, hf, if_true, k3, k4, hb]
      rfl
    · cases h
  · cases h
theorem loadO_ok {T : TI} {a x v : D} {f : Foot} {p : Prop} {σ : Store} (h : loadO T a x σ = some (v, f, p)) (hp : p) : evLoad T a σ = some (v, f) := by
  unfold loadO at h
  split at h
  · split at h
    · rename_i ho
      obtain ⟨y, hy, e⟩ := Option.map_eq_some_iff.1 h
      injection e with e1 e; injection e with e2 e3
      subst e1 e2 e3
      unfold evLoad
      simp only [ho, hp, hy]; rfl
    · cases h
  · cases h
theorem idxO_ok {t : TypeId} {a ix y v : D} {p : Prop} {σ : Store} (h : idxO P t a ix y = some (v, p)) (hp : p) : evIndexAddr P t a ix σ = some (v, .none) := by
  unfold idxO at h
  split at h
  · rename_i hk
    split at h
    · rename_i hc
      injection h with h; injection h with h1 h2
      subst h1 h2
      unfold evIndexAddr
      simp only [hk, hp.1, hp.2, hc, if_true, and_self]
    · cases h
  · cases h
theorem divO_ok {op : BinOp} {t : TypeId} {x y v : D} {p : Prop} (h : divO op x y = some (v, p)) (hp : p) : evBin P op t x y = some v := by
  unfold divO at h
  split at h
  · split at h
    · rename_i hk
      injection h with h; injection h with h1 h2
      subst h1 h2
      simp only [evBin, hk, if_true, binInt]
      rw [if_neg hp]
    · cases h
  · split at h
    · rename_i hk
      injection h with h; injection h with h1 h2
      subst h1 h2
      simp only [evBin, hk, if_true, binInt]
      rw [if_neg hp]
    · cases h
  · injection h with h; injection h with h1 h2
    subst h1 h2
    simp only [evBin, shInt]
    rw [if_neg (by omega)]
  · injection h with h; injection h with h1 h2
    subst h1 h2
    simp only [evBin, shInt]
    rw [if_neg (by omega)]
  · cases h
theorem withAns_ok {o : Oper} {e : Env} {aid : Nat} {σ : Store} {k : AnsK} {r : D × Store × Foot} {p : Prop} (h : withAns P call o e aid σ k = some (r, p)) (hp : p) : step P call o e aid σ = some r := by
  unfold withAns at h
  split at h
  · injection h with h; injection h with h1 h2
    subst h1 h2
    exact hp
  · obtain ⟨dst, op, type, pos, after, guard⟩ := o
    simp only at h
    split at h
    · obtain ⟨⟨v, f, q⟩, hl, he⟩ := Option.map_eq_some_iff.1 h
      injection he with h1 h2
      subst h1 h2
      rw [step_other rfl]
      simp only [evOp, loadO_ok hl hp]; rfl
    · obtain ⟨⟨v, q⟩, hl, he⟩ := Option.map_eq_some_iff.1 h
      injection he with h1 h2
      subst h1 h2
      rw [step_other rfl]
      simp only [evOp, idxO_ok hl hp]; rfl
    · cases h
  · obtain ⟨dst, op, type, pos, after, guard⟩ := o
    simp only at h
    split at h
    · obtain ⟨⟨v, q⟩, hl, he⟩ := Option.map_eq_some_iff.1 h
      injection he with h1 h2
      subst h1 h2
      rw [step_other rfl]
      simp only [evOp, divO_ok hl hp]; rfl
    · cases h
  · cases h
theorem plainO_ok (hs : SpecOk P M spec) {o : Oper} {e : Env} {aid : Nat} {σ : Store} {r : D × Store × Foot} (h : Says (plainO P spec o e aid σ) r) : step P (CR P M) o e aid σ = some r := by
  obtain ⟨dst, op, type, pos, after, guard⟩ := o
  unfold plainO at h
  split at h
  · rename_i f args ats heq
    have ho : (⟨dst, op, type, pos, after, guard⟩ : Oper).op = .call { callee := .value f, args := args, argTypes := ats } := heq
    rw [step_go ho]
    split at h
    · rename_i g as hc
      rw [hc]
      split at h
      · rename_i r' σ' ts hg
        obtain ⟨π, π', ts', h, ha⟩ := h
        injection h with h; injection h with h1 h; injection h with h2 h3
        subst h1 h3
        simp only [goO_ok hs hg ha]
      · exact h.none.elim
    · exact h.none.elim
  · rename_i c a b heq
    simp only at heq
    subst heq
    rw [step_other rfl]
    split at h
    · rename_i d
      split at h
      · rename_i hc
        obtain ⟨⟨t, e'⟩, h1, h2⟩ := h.bind
        obtain ⟨rfl, _⟩ := h1.askE hc
        have := h2.pure
        subst this
        simp only [evOp, opnd, hc]
        cases t <;> rfl
      · exact h.none.elim
    · exact h.lift
  · rename_i hne hne2
    have := h.lift
    cases hg : isGo (⟨dst, op, type, pos, after, guard⟩ : Oper) with
    | false => rw [step_other hg]; exact this
    | true =>
      obtain ⟨f, as, ts, ho⟩ := isGo_true hg
      exact absurd ho (hne _ _ _)
theorem step1_ok (hs : SpecOk P M spec) {o : Oper} {e : Env} {aid : Nat} {σ : Store} {r : D × Store × Foot} (h : Says (step1 P (CR P M) spec o e aid σ) r) : step P (CR P M) o e aid σ = some r := by
  obtain ⟨π, π', ts, h, ha⟩ := h
  unfold step1 at h
  split at h
  · split at h
    · split at h
      · rename_i hw
        injection h with h; injection h with h1 h; injection h with h2 h3
        subst h1 h3
        exact withAns_ok hw ha.1
      · cases h
    · exact plainO_ok hs ⟨_, _, _, h, ha⟩
  · exact plainO_ok hs ⟨_, _, _, h, ha⟩
theorem stepO_ok (hs : SpecOk P M spec) {o : Oper} {e : Env} {aid : Nat} {σ : Store} {r : D × Store × Foot} (h : Says (stepO P (CR P M) spec o e aid σ) r) : step P (CR P M) o e aid σ = some r := by
  obtain ⟨r0, h1, h2⟩ := Says.bind h
  rw [sameO_ok h2]
  exact step1_ok hs h1
theorem wantsO_ok {e e' : Env} {o : Oper} {b : Bool} (h : Says (wantsO ops e o) (b, e')) : wants ops e o = some b ∧ e' = e := by
  unfold wantsO at h
  unfold wants
  split at h
  · rename_i hg
    have := h.pure
    injection this with h1 h2
    rw [hg, h1]
    exact ⟨rfl, h2⟩
  · rename_i g want hg
    rw [hg]
    simp only
    split at h
    · rename_i d hd
      rw [hd]
      simp only
      split at h
      · rename_i hc
        obtain ⟨⟨t, e1⟩, h1, h2⟩ := h.bind
        obtain ⟨rfl, rfl⟩ := h1.askE hc
        have := h2.pure
        injection this with h3 h4
        rw [hc, h3]
        exact ⟨rfl, h4⟩
      · rename_i hc
        have := h.pure
        injection this with h1 h2
        rw [hc, h1]
        exact ⟨rfl, h2⟩
      · exact h.none.elim
    · exact h.none.elim
theorem evLO_ok (hs : SpecOk P M spec) : ∀ {l : List Oper} {aid : Nat} {e : Env} {σ : Store} {r : Env × Store}, Says (evLO P (CR P M) spec ops l aid e σ) r → evL P (CR P M) ops l aid e σ = some r
  | [], aid, e, σ, r, h => by unfold evLO at h; rw [h.pure]; rfl
  | o :: l, aid, e, σ, r, h => by
    unfold evLO at h
    obtain ⟨⟨w, e'⟩, h1, h2⟩ := h.bind
    obtain ⟨hw, rfl⟩ := wantsO_ok h1
    unfold evL
    rw [hw]
    simp only at h2
    cases w with
    | true =>
      simp only at h2 ⊢
      obtain ⟨⟨v, σ', f⟩, h3, h4⟩ := h2.bind
      rw [stepO_ok hs h3]
      exact evLO_ok hs h4
    | false => exact evLO_ok hs h2
theorem evCodeO_ok (hs : SpecOk P M spec) {q : Bool} : ∀ {c : Code} {e : Env} {σ : Store} {r : Res}, (q = true → calmCode c = true) → Says (evCodeO P (CR P M) spec (loopR P M) q c e σ) r → evCode P (CR P M) (loopR P M) c e σ = some r := by
  intro c
  induction c with
  | skip => intro e σ r hq h; unfold evCodeO at h; rw [h.pure]; rfl
  | label l => intro e σ r hq h; unfold evCodeO at h; rw [h.pure]; rfl
  | ret => intro e σ r hq h; unfold evCodeO at h; rw [h.pure]; rfl
  | exit id => intro e σ r hq h; unfold evCodeO at h; rw [h.pure]; rfl
  | region id ops draw =>
    intro e σ r hq h
    unfold evCodeO at h
    simp only at h
    unfold evCode
    have key : drawOk P (CR P M) ops draw e σ = true → Says ((evLO P (CR P M) spec ops ops.toList σ.length e (σ ++ List.replicate (nallocs ops.toList) Option.none)).bind fun r => .pure (Ex.normal, r.1, r.2)) r →
        (if drawOk P (CR P M) ops draw e σ then (evL P (CR P M) ops ops.toList σ.length e (σ ++ List.replicate (nallocs ops.toList) Option.none)).map fun r => (Ex.normal, r.1, r.2) else Option.none) = some r := by
      intro hd hk
      obtain ⟨qq, h1, h2⟩ := hk.bind
      rw [if_pos hd, evLO_ok hs h1, h2.pure]; rfl
    cases q with
    | true =>
      have hc := hq rfl
      refine key ?_ h
      unfold drawOk
      unfold calmCode calm at hc
      rw [if_neg]
      cases draw <;> simp_all
    | false =>
      obtain ⟨u, h1, h2⟩ := h.bind
      exact key h1.need h2
  | seq a b iha ihb =>
    intro e σ r hq h
    unfold evCodeO at h
    simp only [calmCode, Bool.and_eq_true] at hq
    obtain ⟨qq, h1, h2⟩ := h.bind
    unfold evCode
    rw [iha (fun k => (hq k).1) h1]
    obtain ⟨ex, e', σ'⟩ := qq
    cases ex with
    | normal => exact ihb (fun k => (hq k).2) h2
    | exit id => rw [h2.pure]
    | ret => rw [h2.pure]
  | cond cc a b iha ihb =>
    intro e σ r hq h
    simp only [calmCode, Bool.and_eq_true] at hq
    unfold evCodeO at h
    unfold evCode
    split at h
    · rename_i d
      split at h
      · rename_i ho
        obtain ⟨⟨t, e'⟩, h1, h2⟩ := h.bind
        obtain ⟨rfl, rfl⟩ := h1.askE ho
        simp only [opnd, ho]
        cases t with
        | true => exact iha (fun k => (hq k).1) h2
        | false => exact ihb (fun k => (hq k).2) h2
      · exact h.none.elim
    · split at h
      · rename_i ho; simp only [ho]; exact iha (fun k => (hq k).1) h
      · rename_i ho; simp only [ho]; exact ihb (fun k => (hq k).2) h
      · exact h.none.elim
  | block id a ih =>
    intro e σ r hq h
    unfold evCodeO at h
    obtain ⟨qq, h1, h2⟩ := h.bind
    unfold evCode
    rw [ih hq h1]
    obtain ⟨ex, e', σ'⟩ := qq
    cases ex with
    | normal => rw [h2.pure]
    | exit id' =>
      rw [h2.pure]
      simp only
      split <;> rfl
    | ret => rw [h2.pure]
  | loop a _ =>
    intro e σ r hq h
    unfold evCodeO at h
    unfold evCode
    obtain ⟨π, π', ts, h, ha⟩ := h
    unfold loopO at h
    split at h
    · injection h with h; injection h with h1 h; injection h with h2 h3
      subst h1 h3
      exact ha.1
    · cases h
  | _ => intro e σ r hq h; unfold evCodeO at h; exact h.none.elim
theorem fnO_ok (hs : SpecOk P M spec) {f : FuncId} {fn : Func} (hg : M.good f = true) (hp : M.prim f = none) (hb : M.byref f = false) (hf : P.funcs[f]? = some fn) {args : List D} (hl : args.length = fn.params.size + fn.nfree) {d : D}
    {q : Bool} (hq : q = true → calmFn fn = true) (h : Says (fnO P (CR P M) spec (loopR P M) q fn args) d) : Fun P M f args d := by
  refine ⟨hp, hb, ?_⟩
  rw [run_eq hg hf hl]
  unfold fnO at h
  unfold bodyD
  split at h
  · rename_i c hc
    rw [hc]
    simp only
    obtain ⟨⟨ex, e, σ⟩, h1, h2⟩ := h.bind
    rw [evCodeO_ok hs (fun k => by have := hq k; unfold calmFn at this; rw [hc] at this; exact this) h1]
    cases ex with
    | normal =>
      simp only at h2 ⊢
      split at h2
      · rename_i d0 hr
        exact ⟨d0, σ, by rw [hr]; rfl, h2.lift⟩
      · exact h2.none.elim
    | ret =>
      simp only at h2 ⊢
      split at h2
      · rename_i d0 hr
        exact ⟨d0, σ, by rw [hr]; rfl, h2.lift⟩
      · exact h2.none.elim
    | exit id => exact h2.none.elim
  · exact h.none.elim
/-- Along one path. -/
theorem path (hs : SpecOk P M spec) {f : FuncId} {fn : Func} (hg : M.good f = true) (hp : M.prim f = none) (hb : M.byref f = false) (hf : P.funcs[f]? = some fn) {args : List D} (hl : args.length = fn.params.size + fn.nfree) {d : D} (hq : calmFn fn = true) (π : List Ans) {ts : List Prop}
    (h : fnO P (CR P M) spec (loopR P M) true fn args π = some (d, [], ts)) (ha : All ts) : Fun P M f args d := fnO_ok hs hg hp hb hf hl (fun _ => hq) ⟨π, [], ts, h, ha⟩
end
end Go.Proofs.Ytfjgngdomjjpgaa.Dv
