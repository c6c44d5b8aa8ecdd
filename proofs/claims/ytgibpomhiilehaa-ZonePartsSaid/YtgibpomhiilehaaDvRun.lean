/- The evaluator's limit: more rounds give the same answer; the equations of calls and loops. -/
import Derived.Test.YtgibpomhiilehaaDvCore
set_option linter.unusedVariables false
set_option linter.unusedSimpArgs false
namespace Go.Proofs.Ytgibpomhiilehaa.Dv
open Go

def LeC (c c' : CallF) : Prop := ∀ f a s r, c f a s = some r → c' f a s = some r
def LeL (l l' : LoopF) : Prop := ∀ c e s r, l c e s = some r → l' c e s = some r

variable {P : Program} {M : Modes}

theorem callD_mono {c c' : CallF} (h : LeC c c') : LeC (callD M c) (callD M c') := by
  intro f a s r hr
  unfold callD at hr ⊢
  cases hp : M.prim f with
  | some p => simpa only [hp] using hr
  | none =>
    simp only [hp] at hr ⊢
    cases hm : M.byref f with
    | true =>
      simp only [hm, if_true] at hr ⊢
      split at hr
      · rename_i hro
        rw [if_pos hro]
        obtain ⟨q, hq, he⟩ := Option.bind_eq_some_iff.1 hr
        rw [h _ _ _ _ hq]; exact he
      · rename_i hro
        rw [if_neg hro]
        exact h _ _ _ _ hr
    | false =>
      simp only [hm, Bool.false_eq_true, if_false] at hr ⊢
      by_cases hf : (a.map fun d => (lend s d).1).all D.free = true
      · simp only [hf, if_true] at hr ⊢
        cases hc : c f (a.map fun d => (lend s d).1) [] with
        | none => simp [hc] at hr
        | some q => rw [hc] at hr; rw [h _ _ _ _ hc]; exact hr
      · simp only [hf, if_false] at hr; cases hr

/-- What a call of a Go function among the operations comes to. -/
def isGo (o : Oper) : Bool :=
  match o.op with
  | .call { callee := .value _, .. } => true
  | _ => false
theorem step_go {call : CallF} {o : Oper} {f : Operand} {as : Array Operand} {ts : Array TypeId} (h : o.op = .call { callee := .value f, args := as, argTypes := ts }) (e : Env) (aid : Nat) (σ : Store) :
    step P call o e aid σ = match evCallee e { callee := .value f, args := as, argTypes := ts } with
      | some (g, as) => match call g as σ with
        | some (r, σ') => some (r, σ', .call (as.flatMap fun d => (lend σ d).2))
        | none => none
      | none => none := by
  unfold step; simp only [h]; rfl
theorem step_other {call : CallF} {o : Oper} (h : isGo o = false) (e : Env) (aid : Nat) (σ : Store) : step P call o e aid σ = evOp P o e aid σ := by
  unfold step
  unfold isGo at h
  split
  · rename_i heq; rw [heq] at h; simp at h
  · rfl
theorem isGo_true {o : Oper} (h : isGo o = true) : ∃ f as ts, o.op = .call { callee := .value f, args := as, argTypes := ts } := by
  unfold isGo at h
  split at h
  · rename_i heq; exact ⟨_, _, _, heq⟩
  · cases h

theorem step_mono {c c' : CallF} (h : LeC c c') {o : Oper} {e : Env} {aid : Nat} {σ : Store} {r : D × Store × Foot} (hr : step P c o e aid σ = some r) : step P c' o e aid σ = some r := by
  cases hg : isGo o with
  | false => rw [step_other hg] at hr ⊢; exact hr
  | true =>
    obtain ⟨f, as, ts, ho⟩ := isGo_true hg
    rw [step_go ho] at hr ⊢
    cases hc : evCallee e { callee := .value f, args := as, argTypes := ts } with
    | none => simp [hc] at hr
    | some q =>
      obtain ⟨g, bs⟩ := q
      simp only [hc] at hr ⊢
      cases hq : c g bs σ with
      | none => simp [hq] at hr
      | some x => rw [hq] at hr; rw [h _ _ _ _ hq]; exact hr
theorem evL_mono {c c' : CallF} (h : LeC c c') {ops : Array Oper} : ∀ {l : List Oper} {aid : Nat} {e : Env} {σ : Store} {r : Env × Store}, evL P c ops l aid e σ = some r → evL P c' ops l aid e σ = some r
  | [], _, _, _, _, hr => hr
  | o :: l, aid, e, σ, r, hr => by
    unfold evL at hr ⊢
    cases hw : wants ops e o with
    | none => simp [hw] at hr
    | some b =>
      cases b with
      | false => simp only [hw] at hr ⊢; exact evL_mono h hr
      | true =>
        simp only [hw] at hr ⊢
        cases hs : step P c o e aid σ with
        | none => simp [hs] at hr
        | some q => obtain ⟨v, σ', ft⟩ := q; rw [hs] at hr; rw [step_mono h hs]; exact evL_mono h hr
theorem feetL_mono {c c' : CallF} (h : LeC c c') {ops : Array Oper} : ∀ {l : List Oper} {aid : Nat} {e : Env} {σ : Store} {r : List Foot}, feetL P c ops l aid e σ = some r → feetL P c' ops l aid e σ = some r
  | [], _, _, _, _, hr => hr
  | o :: l, aid, e, σ, r, hr => by
    unfold feetL at hr ⊢
    cases hw : wants ops e o with
    | none => simp [hw] at hr
    | some b =>
      cases b with
      | false =>
        simp only [hw] at hr ⊢
        obtain ⟨fs, hfs, rfl⟩ := Option.map_eq_some_iff.1 hr
        rw [feetL_mono h hfs]; rfl
      | true =>
        simp only [hw] at hr ⊢
        cases hs : step P c o e aid σ with
        | none => simp [hs] at hr
        | some q =>
          obtain ⟨v, σ', ft⟩ := q
          rw [hs] at hr
          rw [step_mono h hs]
          simp only at hr ⊢
          obtain ⟨fs, hfs, rfl⟩ := Option.map_eq_some_iff.1 hr
          rw [feetL_mono h hfs]; rfl
theorem drawOk_mono {c c' : CallF} (h : LeC c c') {ops : Array Oper} {dr : Bool} {e : Env} {σ : Store} (hr : drawOk P c ops dr e σ = true) : drawOk P c' ops dr e σ = true := by
  unfold drawOk at hr ⊢
  by_cases hb : (dr && !(badPairs ops).isEmpty) = true
  · rw [if_pos hb] at hr ⊢
    cases hf : feetL P c ops ops.toList σ.length e (σ ++ List.replicate (nallocs ops.toList) none) with
    | none => rw [hf] at hr; cases hr
    | some fs => rw [hf] at hr; rw [feetL_mono h hf]; exact hr
  · rw [if_neg hb]
theorem evCode_mono {c c' : CallF} {l l' : LoopF} (h : LeC c c') (hl : LeL l l') : ∀ {x : Code} {e : Env} {σ : Store} {r : Res}, evCode P c l x e σ = some r → evCode P c' l' x e σ = some r := by
  intro x
  induction x with
  | region id ops dr =>
    intro e σ r hr
    unfold evCode at hr ⊢
    by_cases hd : drawOk P c ops dr e σ = true
    case neg => rw [if_neg hd] at hr; cases hr
    rw [if_pos hd] at hr
    rw [if_pos (drawOk_mono h hd)]
    cases hq : evL P c ops ops.toList σ.length e (σ ++ List.replicate (nallocs ops.toList) none) with
    | none => simp [hq] at hr
    | some q => rw [hq] at hr; rw [evL_mono h hq]; exact hr
  | seq a b iha ihb =>
    intro e σ r hr
    unfold evCode at hr ⊢
    cases hq : evCode P c l a e σ with
    | none => simp [hq] at hr
    | some q =>
      obtain ⟨ex, e', σ'⟩ := q
      rw [iha hq]
      rw [hq] at hr
      cases ex with
      | normal => exact ihb hr
      | exit id => exact hr
      | ret => exact hr
  | cond cc a b iha ihb =>
    intro e σ r hr
    unfold evCode at hr ⊢
    split at hr
    · exact iha hr
    · exact ihb hr
    · cases hr
  | block id a ih =>
    intro e σ r hr
    unfold evCode at hr ⊢
    cases hq : evCode P c l a e σ with
    | none => simp [hq] at hr
    | some q => rw [ih hq]; rw [hq] at hr; exact hr
  | loop a _ => intro e σ r hr; unfold evCode at hr ⊢; exact hl _ _ _ _ hr
  | scope a ih => intro e σ r hr; unfold evCode at hr ⊢; exact ih hr
  | _ => intro e σ r hr; first | exact hr | (simp [evCode] at hr)
theorem roundD_mono {c c' : CallF} {l l' : LoopF} (h : LeC c c') (hl : LeL l l') {x : Code} {e : Env} {σ : Store} {r : Res} (hr : roundD P c l x e σ = some r) : roundD P c' l' x e σ = some r := by
  unfold roundD at hr ⊢
  cases hq : evCode P c l x e σ with
  | none => simp [hq] at hr
  | some q =>
    obtain ⟨ex, e', σ'⟩ := q
    rw [evCode_mono h hl hq]
    rw [hq] at hr
    cases ex with
    | normal => exact hl _ _ _ _ hr
    | exit id => exact hr
    | ret => exact hr
theorem bodyD_mono {c c' : CallF} {l l' : LoopF} (h : LeC c c') (hl : LeL l l') {fn : Func} {args : List D} {σ : Store} {r : D × Store} (hr : bodyD P c l fn args σ = some r) : bodyD P c' l' fn args σ = some r := by
  unfold bodyD at hr ⊢
  cases hb : fn.body with
  | none => simp [hb] at hr
  | some b =>
    simp only [hb] at hr ⊢
    cases hq : evCode P c l b (entry args) σ with
    | none => simp [hq] at hr
    | some q => rw [evCode_mono h hl hq]; rw [hq] at hr; exact hr

theorem runN_succ (n : Nat) : LeC (runN P M n).1 (runN P M (n + 1)).1 ∧ LeL (runN P M n).2 (runN P M (n + 1)).2 := by
  induction n with
  | zero => exact ⟨fun f a s r h => by simp [runN] at h, fun c e s r h => by simp [runN] at h⟩
  | succ n ih =>
    obtain ⟨h1, h2⟩ := ih
    constructor
    · intro f a s r h
      rw [runN] at h ⊢
      simp only at h ⊢
      cases hg : M.good f with
      | false => simp [hg] at h
      | true =>
        simp only [hg, if_true] at h ⊢
        cases hf : P.funcs[f]? with
        | none => simp [hf] at h
        | some fn =>
          simp only [hf] at h ⊢
          by_cases hl : a.length = fn.params.size + fn.nfree
          · simp only [hl, if_true] at h ⊢; exact bodyD_mono (callD_mono h1) h2 h
          · simp [hl] at h
    · intro c e s r h
      rw [runN] at h ⊢
      exact roundD_mono (callD_mono h1) h2 h
theorem runN_le {m n : Nat} (h : m ≤ n) : LeC (runN P M m).1 (runN P M n).1 ∧ LeL (runN P M m).2 (runN P M n).2 := by
  induction h with
  | refl => exact ⟨fun _ _ _ _ h => h, fun _ _ _ _ h => h⟩
  | step _ ih => exact ⟨fun f a s r h => (runN_succ _).1 f a s r (ih.1 f a s r h), fun c e s r h => (runN_succ _).2 c e s r (ih.2 c e s r h)⟩

/-! ### the limit -/
open Classical in
noncomputable def run (P : Program) (M : Modes) : CallF := fun f a s => if h : ∃ r n, (runN P M n).1 f a s = some r then some h.choose else none
open Classical in
noncomputable def loopR (P : Program) (M : Modes) : LoopF := fun c e s => if h : ∃ r n, (runN P M n).2 c e s = some r then some h.choose else none
theorem run_iff {f : FuncId} {a : List D} {s : Store} {r : D × Store} : run P M f a s = some r ↔ ∃ n, (runN P M n).1 f a s = some r := by
  unfold run
  constructor
  · intro h
    split at h
    · rename_i hx
      injection h with h
      subst h
      exact hx.choose_spec
    · cases h
  · rintro ⟨n, hn⟩
    have hx : ∃ r n, (runN P M n).1 f a s = some r := ⟨r, n, hn⟩
    rw [dif_pos hx]
    obtain ⟨m, hm⟩ := hx.choose_spec
    have h1 := (runN_le (Nat.le_max_left n m)).1 _ _ _ _ hn
    have h2 := (runN_le (Nat.le_max_right n m)).1 _ _ _ _ hm
    rw [h1] at h2
    injection h2 with h2
    rw [← h2]
theorem loopR_iff {c : Code} {e : Env} {s : Store} {r : Res} : loopR P M c e s = some r ↔ ∃ n, (runN P M n).2 c e s = some r := by
  unfold loopR
  constructor
  · intro h
    split at h
    · rename_i hx
      injection h with h
      subst h
      exact hx.choose_spec
    · cases h
  · rintro ⟨n, hn⟩
    have hx : ∃ r n, (runN P M n).2 c e s = some r := ⟨r, n, hn⟩
    rw [dif_pos hx]
    obtain ⟨m, hm⟩ := hx.choose_spec
    have h1 := (runN_le (Nat.le_max_left n m)).2 _ _ _ _ hn
    have h2 := (runN_le (Nat.le_max_right n m)).2 _ _ _ _ hm
    rw [h1] at h2
    injection h2 with h2
    rw [← h2]
theorem le_run (n : Nat) : LeC (runN P M n).1 (run P M) := fun _ _ _ _ h => run_iff.2 ⟨n, h⟩
theorem le_loopR (n : Nat) : LeL (runN P M n).2 (loopR P M) := fun _ _ _ _ h => loopR_iff.2 ⟨n, h⟩

/-! ### what is come to is come to at some number of rounds -/
theorem callD_cont {f : FuncId} {a : List D} {s : Store} {r : D × Store} (hr : callD M (run P M) f a s = some r) : ∃ n, callD M (runN P M n).1 f a s = some r := by
  unfold callD at hr ⊢
  cases hp : M.prim f with
  | some p => exact ⟨0, by simpa only [hp] using hr⟩
  | none =>
    simp only [hp] at hr ⊢
    cases hm : M.byref f with
    | true =>
      simp only [hm, if_true] at hr ⊢
      split at hr
      · rename_i hro
        obtain ⟨q, hq, he⟩ := Option.bind_eq_some_iff.1 hr
        obtain ⟨n, hn⟩ := run_iff.1 hq
        exact ⟨n, by rw [if_pos hro, hn]; exact he⟩
      · rename_i hro
        obtain ⟨n, hn⟩ := run_iff.1 hr
        exact ⟨n, by rw [if_neg hro]; exact hn⟩
    | false =>
      simp only [hm, Bool.false_eq_true, if_false] at hr ⊢
      by_cases hf : (a.map fun d => (lend s d).1).all D.free = true
      · simp only [hf, if_true] at hr ⊢
        cases hc : run P M f (a.map fun d => (lend s d).1) [] with
        | none => simp [hc] at hr
        | some q => obtain ⟨n, hn⟩ := run_iff.1 hc; rw [hc] at hr; exact ⟨n, by rw [hn]; exact hr⟩
      · simp only [hf, if_false] at hr; cases hr
abbrev CN (P : Program) (M : Modes) (n : Nat) : CallF := callD M (runN P M n).1
noncomputable abbrev CR (P : Program) (M : Modes) : CallF := callD M (run P M)
theorem CN_le {m n : Nat} (h : m ≤ n) : LeC (CN P M m) (CN P M n) := callD_mono (runN_le h).1
theorem step_cont {o : Oper} {e : Env} {aid : Nat} {σ : Store} {r : D × Store × Foot} (hr : step P (CR P M) o e aid σ = some r) : ∃ n, step P (CN P M n) o e aid σ = some r := by
  cases hg : isGo o with
  | false => rw [step_other hg] at hr; exact ⟨0, by rw [step_other hg]; exact hr⟩
  | true =>
    obtain ⟨f, as, ts, ho⟩ := isGo_true hg
    rw [step_go ho] at hr
    cases hc : evCallee e { callee := .value f, args := as, argTypes := ts } with
    | none => simp [hc] at hr
    | some q =>
      obtain ⟨g, bs⟩ := q
      simp only [hc] at hr
      cases hq : CR P M g bs σ with
      | none => simp [hq] at hr
      | some x => obtain ⟨n, hn⟩ := callD_cont hq; rw [hq] at hr; exact ⟨n, by rw [step_go ho, hc]; simp only [CN, hn]; exact hr⟩
theorem evL_cont {ops : Array Oper} : ∀ {l : List Oper} {aid : Nat} {e : Env} {σ : Store} {r : Env × Store}, evL P (CR P M) ops l aid e σ = some r → ∃ n, evL P (CN P M n) ops l aid e σ = some r
  | [], _, _, _, _, hr => ⟨0, hr⟩
  | o :: l, aid, e, σ, r, hr => by
    unfold evL at hr
    cases hw : wants ops e o with
    | none => simp [hw] at hr
    | some b =>
      cases b with
      | false => simp only [hw] at hr; obtain ⟨n, hn⟩ := evL_cont hr; exact ⟨n, by unfold evL; simp only [hw]; exact hn⟩
      | true =>
        simp only [hw] at hr
        cases hs : step P (CR P M) o e aid σ with
        | none => simp [hs] at hr
        | some q =>
          obtain ⟨v, σ', ft⟩ := q
          obtain ⟨n, hn⟩ := step_cont hs
          rw [hs] at hr
          obtain ⟨m, hm⟩ := evL_cont hr
          refine ⟨max n m, ?_⟩
          unfold evL
          simp only [hw, step_mono (CN_le (Nat.le_max_left n m)) hn]
          exact evL_mono (CN_le (Nat.le_max_right n m)) hm
theorem feetL_cont {ops : Array Oper} : ∀ {l : List Oper} {aid : Nat} {e : Env} {σ : Store} {r : List Foot}, feetL P (CR P M) ops l aid e σ = some r → ∃ n, feetL P (CN P M n) ops l aid e σ = some r
  | [], _, _, _, _, hr => ⟨0, hr⟩
  | o :: l, aid, e, σ, r, hr => by
    unfold feetL at hr
    cases hw : wants ops e o with
    | none => simp [hw] at hr
    | some b =>
      cases b with
      | false =>
        simp only [hw] at hr
        obtain ⟨fs, hfs, rfl⟩ := Option.map_eq_some_iff.1 hr
        obtain ⟨n, hn⟩ := feetL_cont hfs
        exact ⟨n, by unfold feetL; simp only [hw]; rw [hn]; rfl⟩
      | true =>
        simp only [hw] at hr
        cases hs : step P (CR P M) o e aid σ with
        | none => simp [hs] at hr
        | some q =>
          obtain ⟨v, σ', ft⟩ := q
          obtain ⟨n, hn⟩ := step_cont hs
          rw [hs] at hr
          simp only at hr
          obtain ⟨fs, hfs, rfl⟩ := Option.map_eq_some_iff.1 hr
          obtain ⟨m, hm⟩ := feetL_cont hfs
          refine ⟨max n m, ?_⟩
          unfold feetL
          simp only [hw, step_mono (CN_le (Nat.le_max_left n m)) hn]
          rw [feetL_mono (CN_le (Nat.le_max_right n m)) hm]; rfl
theorem drawOk_cont {ops : Array Oper} {dr : Bool} {e : Env} {σ : Store} (hr : drawOk P (CR P M) ops dr e σ = true) : ∃ n, drawOk P (CN P M n) ops dr e σ = true := by
  unfold drawOk at hr
  by_cases hb : (dr && !(badPairs ops).isEmpty) = true
  · rw [if_pos hb] at hr
    cases hf : feetL P (CR P M) ops ops.toList σ.length e (σ ++ List.replicate (nallocs ops.toList) none) with
    | none => rw [hf] at hr; cases hr
    | some fs =>
      rw [hf] at hr
      obtain ⟨n, hn⟩ := feetL_cont hf
      exact ⟨n, by unfold drawOk; rw [if_pos hb, hn]; exact hr⟩
  · exact ⟨0, by unfold drawOk; rw [if_neg hb]⟩
theorem evCode_up {m n : Nat} (h : m ≤ n) {x : Code} {e : Env} {σ : Store} {r : Res} (hr : evCode P (CN P M m) (runN P M m).2 x e σ = some r) : evCode P (CN P M n) (runN P M n).2 x e σ = some r :=
  evCode_mono (CN_le h) (runN_le h).2 hr
theorem evCode_cont : ∀ {x : Code} {e : Env} {σ : Store} {r : Res}, evCode P (CR P M) (loopR P M) x e σ = some r → ∃ n, evCode P (CN P M n) (runN P M n).2 x e σ = some r := by
  intro x
  induction x with
  | region id ops dr =>
    intro e σ r hr
    unfold evCode at hr
    by_cases hd : drawOk P (CR P M) ops dr e σ = true
    case neg => rw [if_neg hd] at hr; cases hr
    rw [if_pos hd] at hr
    cases hq : evL P (CR P M) ops ops.toList σ.length e (σ ++ List.replicate (nallocs ops.toList) none) with
    | none => simp [hq] at hr
    | some q =>
      obtain ⟨n, hn⟩ := evL_cont hq
      obtain ⟨m, hm⟩ := drawOk_cont hd
      rw [hq] at hr
      refine ⟨max n m, ?_⟩
      unfold evCode
      rw [if_pos (drawOk_mono (CN_le (Nat.le_max_right n m)) hm), evL_mono (CN_le (Nat.le_max_left n m)) hn]
      exact hr
  | seq a b iha ihb =>
    intro e σ r hr
    unfold evCode at hr
    cases hq : evCode P (CR P M) (loopR P M) a e σ with
    | none => simp [hq] at hr
    | some q =>
      obtain ⟨ex, e', σ'⟩ := q
      obtain ⟨n, hn⟩ := iha hq
      rw [hq] at hr
      cases ex with
      | normal =>
        obtain ⟨m, hm⟩ := ihb hr
        refine ⟨max n m, ?_⟩
        unfold evCode
        rw [evCode_up (Nat.le_max_left n m) hn]
        exact evCode_up (Nat.le_max_right n m) hm
      | exit id => exact ⟨n, by unfold evCode; rw [hn]; exact hr⟩
      | ret => exact ⟨n, by unfold evCode; rw [hn]; exact hr⟩
  | cond cc a b iha ihb =>
    intro e σ r hr
    unfold evCode at hr
    split at hr
    · rename_i h; obtain ⟨n, hn⟩ := iha hr; exact ⟨n, by unfold evCode; rw [h]; exact hn⟩
    · rename_i h; obtain ⟨n, hn⟩ := ihb hr; exact ⟨n, by unfold evCode; rw [h]; exact hn⟩
    · cases hr
  | block id a ih =>
    intro e σ r hr
    unfold evCode at hr
    cases hq : evCode P (CR P M) (loopR P M) a e σ with
    | none => simp [hq] at hr
    | some q => obtain ⟨n, hn⟩ := ih hq; rw [hq] at hr; exact ⟨n, by unfold evCode; rw [hn]; exact hr⟩
  | loop a _ => intro e σ r hr; unfold evCode at hr; obtain ⟨n, hn⟩ := loopR_iff.1 hr; exact ⟨n, by unfold evCode; exact hn⟩
  | scope a ih => intro e σ r hr; unfold evCode at hr; obtain ⟨n, hn⟩ := ih hr; exact ⟨n, by unfold evCode; exact hn⟩
  | _ => intro e σ r hr; first | exact ⟨0, hr⟩ | (simp [evCode] at hr)

/-! ### the equations -/
theorem opt_ext {α : Type} {a b : Option α} (h1 : ∀ r, a = some r → b = some r) (h2 : ∀ r, b = some r → a = some r) : a = b := by
  cases a with
  | some x => exact (h1 x rfl).symm
  | none => cases b with
    | none => rfl
    | some y => exact h2 y rfl
theorem run_eq {f : FuncId} {fn : Func} (hg : M.good f = true) (hf : P.funcs[f]? = some fn) {args : List D} (hl : args.length = fn.params.size + fn.nfree) (σ : Store) :
    run P M f args σ = bodyD P (CR P M) (loopR P M) fn args σ := by
  apply opt_ext
  · intro r hr
    obtain ⟨n, hn⟩ := run_iff.1 hr
    cases n with
    | zero => simp [runN] at hn
    | succ n =>
      rw [runN] at hn
      simp only [hg, if_true, hf, hl] at hn
      exact bodyD_mono (callD_mono (le_run n)) (le_loopR n) hn
  · intro r hr
    unfold bodyD at hr
    cases hb : fn.body with
    | none => simp [hb] at hr
    | some b =>
      simp only [hb] at hr
      cases hq : evCode P (CR P M) (loopR P M) b (entry args) σ with
      | none => simp [hq] at hr
      | some q =>
        obtain ⟨n, hn⟩ := evCode_cont hq
        refine run_iff.2 ⟨n + 1, ?_⟩
        rw [runN]
        simp only [hg, if_true, hf, hl]
        unfold bodyD
        simp only [hb]
        rw [hq] at hr
        rw [show callD M (runN P M n).1 = CN P M n from rfl, hn]
        exact hr
theorem loop_eq (c : Code) (e : Env) (σ : Store) : loopR P M c e σ = roundD P (CR P M) (loopR P M) c e σ := by
  apply opt_ext
  · intro r hr
    obtain ⟨n, hn⟩ := loopR_iff.1 hr
    cases n with
    | zero => simp [runN] at hn
    | succ n =>
      rw [runN] at hn
      exact roundD_mono (callD_mono (le_run n)) (le_loopR n) hn
  · intro r hr
    unfold roundD at hr
    cases hq : evCode P (CR P M) (loopR P M) c e σ with
    | none => simp [hq] at hr
    | some q =>
      obtain ⟨ex, e', σ'⟩ := q
      obtain ⟨n, hn⟩ := evCode_cont hq
      rw [hq] at hr
      cases ex with
      | normal =>
        obtain ⟨m, hm⟩ := loopR_iff.1 hr
        refine loopR_iff.2 ⟨max n m + 1, ?_⟩
        rw [runN]
        show roundD P (CN P M (max n m)) (runN P M (max n m)).2 c e σ = some r
        unfold roundD
        rw [evCode_up (Nat.le_max_left n m) hn]
        exact (runN_le (Nat.le_max_right n m)).2 _ _ _ _ hm
      | exit id => exact loopR_iff.2 ⟨n + 1, by rw [runN]; show roundD P (CN P M n) (runN P M n).2 c e σ = some r; unfold roundD; rw [hn]; exact hr⟩
      | ret => exact loopR_iff.2 ⟨n + 1, by rw [runN]; show roundD P (CN P M n) (runN P M n).2 c e σ = some r; unfold roundD; rw [hn]; exact hr⟩

end Go.Proofs.Ytgibpomhiilehaa.Dv
