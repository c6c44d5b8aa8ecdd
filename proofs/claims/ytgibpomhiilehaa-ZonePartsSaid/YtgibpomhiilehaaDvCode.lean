/- The machine carries out code as the evaluator does. -/
import Derived.Test.YtgibpomhiilehaaDvReg
import Derived.Laws.Sem
import Derived.Scope
set_option linter.unusedVariables false
set_option linter.unusedSimpArgs false
namespace Go.Proofs.Ytgibpomhiilehaa.Dv
open Go

section
variable {P : Program} {M : Modes} {N : Nat} {Γ Γ' : Ctx} {w w' : World} {σ σ' : Store} {Q : Exit → Act → World → Prop}

/-! ### what is asked of the code -/
def dstsOk (n : Nat) (ops : Array Oper) : Bool := ops.all fun o => match o.dst with | some d => decide (d < n) | none => true
def pureC (M : Modes) : Cls → Bool
  | .c f => (M.prim f).isNone && (!M.byref f || M.ro f)
  | _ => true
def noRef (M : Modes) : Cls → Bool
  | .c f => !M.byref f
  | _ => true
def pureOk (M : Modes) (ops : Array Oper) : Bool :=
  let ms := masks ops
  (List.range ops.size).all fun i => (List.range i).all fun j => !free ms j i || match ops[j]?, ops[i]? with
    | some x, some y => cls x == .q || cls y == .q || (pureC M (cls x) && pureC M (cls y) && (!isCN (cls x) (cls y) || (noRef M (cls x) && noRef M (cls y))))
    | _, _ => true
def goodReg (M : Modes) (n : Nat) (ops : Array Oper) (draw : Bool) : Bool := dstsOk n ops && (!draw || (topo ops && pureOk M ops))
def goodCode (M : Modes) (n : Nat) : Code → Bool
  | .skip | .label _ | .ret | .exit _ => true
  | .region _ ops draw => goodReg M n ops draw
  | .seq a b => goodCode M n a && goodCode M n b
  | .cond _ a b => goodCode M n a && goodCode M n b
  | .block _ c => goodCode M n c
  | .scope c => goodCode M n c
  | .loop c => goodCode M n c
  | _ => false
def goodFn (M : Modes) (fn : Func) : Bool :=
  fn.name != "runtime.NumGoroutine" && decide (fn.params.size + fn.nfree ≤ fn.ntmps) && match fn.body with | some c => goodCode M fn.ntmps c | none => false
theorem dstsOk_spec {n : Nat} {ops : Array Oper} (h : dstsOk n ops = true) : DstOk ops n := by
  intro i o d ho hd
  have := Array.all_eq_true_iff_forall_mem.1 h o (Array.mem_of_getElem? ho)
  rw [hd] at this
  simpa using this

/-! ### the end of a piece of code -/
def exOf : Ex → Exit
  | .normal => .normal
  | .exit id => .exit id
  | .ret => .ret
def CodeEnd (N : Nat) (Γ : Ctx) (σ : Store) (w : World) (e' : Env) (σ' : Store) (df : List Deferred) (a' : Act) (w' : World) : Prop :=
  ∃ Γ', Slots Γ' w' e' a' ∧ SR Γ' σ' w' ∧ Reach Γ σ w Γ' σ' w' ∧ a'.tmps.size = N ∧ a'.defers = df
theorem CodeEnd.step {e' : Env} {σ1 : Store} {Γ1 : Ctx} {w1 : World} {df : List Deferred} {a' : Act} (hr : Reach Γ σ w Γ1 σ1 w1) (h : CodeEnd N Γ1 σ1 w1 e' σ' df a' w') : CodeEnd N Γ σ w e' σ' df a' w' := by
  obtain ⟨Γ', h1, h2, h3, h4⟩ := h
  exact ⟨Γ', h1, h2, hr.trans h3, h4⟩

/-! ### regions -/
theorem obj_pad (σ : Store) (n id : Nat) : Store.obj (σ ++ List.replicate n none) id = σ.obj id := by
  unfold Store.obj
  rcases Nat.lt_or_ge id σ.length with h | h
  · rw [List.getElem?_append_left h]
  · rw [List.getElem?_append_right h, List.getElem?_eq_none h, List.getElem?_replicate]
    split <;> rfl
theorem own_pad {n b : Nat} : Own Γ (σ ++ List.replicate n none) b ↔ Own Γ σ b := by
  constructor
  · rintro ⟨id, e, xs, h, hb⟩; exact ⟨id, e, xs, by rw [obj_pad] at h; exact h, hb⟩
  · rintro ⟨id, e, xs, h, hb⟩; exact ⟨id, e, xs, by rw [obj_pad]; exact h, hb⟩
theorem SR.pad (hs : SR Γ σ w) (n : Nat) : SR Γ (σ ++ List.replicate n none) w where
  row id st esz xs h := hs.row id st esz xs (by rw [obj_pad] at h; exact h)
  nomap id st kvs h := hs.nomap id st kvs (by rw [obj_pad] at h; exact h)
  inj id id' o o' h h' := hs.inj id id' o o' (by rw [obj_pad] at h; exact h) (by rw [obj_pad] at h'; exact h')
  live id o h := hs.live id o (by rw [obj_pad] at h; exact h)
  old := hs.old
  below id h := by have := hs.below id h; simp; omega
theorem R.ofHeap (h : w'.heap = w.heap) {m : Option Nat} {ds : List D} {vs : List Value} (hr : R Γ w m ds vs) : R Γ w' m ds vs := hr.mono (.refl _) fun b _ => by rw [h]
theorem RE.ofHeap (h : w'.heap = w.heap) {esz : Nat} {xs : List D} {us rest : List Value} (hr : RE Γ w esz xs us rest) : RE Γ w' esz xs us rest := ⟨hr.r.ofHeap h, hr.one⟩
theorem SR.ofHeap (h : w'.heap = w.heap) (hs : SR Γ σ w) : SR Γ σ w' where
  row id st esz xs ho := by
    obtain ⟨⟨h1, h2, c, e, us, rest, h3, h4, h5, h6⟩, k⟩ := hs.row id st esz xs ho
    exact ⟨⟨h1, h2, c, e, us, rest, by rw [h]; exact h3, h4, h5, h6.ofHeap h⟩, k⟩
  nomap := hs.nomap
  inj := hs.inj
  live := hs.live
  old b hb := by rw [h]; exact hs.old b hb
  below := hs.below
theorem RegEnd.code {n : Nat} {e' : Env} {df : List Deferred} {a' : Act} {w0 : World} (hh : w0.heap = w.heap) (hos : w0.os = w.os) (htp : w0.tape = w.tape) (hout : w0.output = w.output)
    (h : RegEnd N σ.length Γ (σ ++ List.replicate n none) w0 e' σ' df a' w') : CodeEnd N Γ σ w e' σ' df a' w' := by
  obtain ⟨Γ', h1, h2, h3, h4, h5, h6, h7⟩ := h
  refine ⟨Γ', h1, h2, ⟨⟨h3.agree, fun b hb => ?_, fun b hb => ?_, fun b hb hn => ?_, h3.os.trans hos, h3.tape.trans htp, h3.output.trans hout, by rw [← hh]; exact h3.size⟩, by simp at h4; omega, h5⟩, h6, h7⟩
  · rcases h3.cnew b hb with h | h | h
    · exact .inl h
    · exact .inr (.inl (by rw [← hh]; exact h))
    · exact .inr (.inr (own_pad.1 h))
  · rcases h3.own b hb with h | h
    · exact .inl (own_pad.1 h)
    · exact .inr (by rw [← hh]; exact h)
  · rw [h3.kept b (by rw [hh]; exact hb) (fun h => hn (own_pad.1 h)), hh]
theorem pureC_spec {c : Cls} {f : FuncId} (h : pureC M c = true) (hc : c = .c f) : M.prim f = none ∧ (M.byref f = false ∨ M.ro f = true) := by
  subst hc
  simpa [pureC] using h
theorem allFine {ops : Array Oper} (hp : pureOk M ops = true) {fs : List Foot} (h : (badPairs ops).isEmpty = true ∨ feetOk ops (badPairs ops) fs = true) : AllFine M ops (fun i => fs.getD i .wrAll) := by
  intro i j hi hf x y hx hy
  have hji : j < i := by
    unfold free at hf
    simp only [Bool.and_eq_true, decide_eq_true_eq] at hf
    exact hf.1
  by_cases hok : pairOk ops j i = true
  · have hok' := hok
    unfold pairOk at hok'
    simp only [hx, hy, Bool.and_eq_true] at hok'
    refine ⟨hok'.1, .inl ⟨hok'.2, fun f hcf => ?_⟩⟩
    unfold pureOk at hp
    have h1 := List.all_eq_true.1 (List.all_eq_true.1 hp i (List.mem_range.2 hi)) j (List.mem_range.2 hji)
    simp only [hf, hx, hy, Bool.not_true, Bool.false_or, Bool.or_eq_true, Bool.and_eq_true, beq_iff_eq] at h1
    rcases h1 with (h1 | h1) | h1
    · exact .inl h1
    · exact .inr (.inl h1)
    · rcases hcf with hcf | hcf
      · exact .inr (.inr (pureC_spec h1.1.1 hcf))
      · exact .inr (.inr (pureC_spec h1.1.2 hcf))
  · have hmem : (j, i) ∈ badPairs ops := by
      unfold badPairs
      simp only [List.mem_flatMap, List.mem_map, List.mem_filter, List.mem_range]
      exact ⟨i, hi, j, ⟨hji, by simp [hf, hok]⟩, rfl⟩
    rcases h with h | h
    · rw [List.isEmpty_iff] at h
      rw [h] at hmem
      cases hmem
    · unfold feetOk at h
      have := List.all_eq_true.1 h _ hmem
      simp only [hx, hy, Bool.and_eq_true, Bool.or_eq_true] at this
      refine ⟨this.1, .inr ?_⟩
      rcases this.2 with h2 | ⟨h2, h3⟩
      · exact .inl h2
      · refine .inr ⟨h2, fun f hcf => ?_, h3⟩
        unfold pureOk at hp
        have h1 := List.all_eq_true.1 (List.all_eq_true.1 hp i (List.mem_range.2 hi)) j (List.mem_range.2 hji)
        simp only [hf, hx, hy, Bool.not_true, Bool.false_or, Bool.or_eq_true, Bool.and_eq_true, beq_iff_eq, h2, Bool.false_eq_true, or_false, false_or] at h1
        rcases h1 with (h1 | h1) | h1
        · rw [h1] at h2; cases h4 : cls y <;> rw [h4] at h2 <;> cases h2
        · rw [h1] at h2; cases h4 : cls x <;> rw [h4] at h2 <;> cases h2
        · rcases hcf with hcf | hcf
          · have := h1.2.1; rw [hcf] at this; exact ⟨(pureC_spec h1.1.1 hcf).1, by simpa [noRef] using this⟩
          · have := h1.2.2; rw [hcf] at this; exact ⟨(pureC_spec h1.1.2 hcf).1, by simpa [noRef] using this⟩
theorem map_getD {fs : List Foot} {n : Nat} (h : fs.length = n) : (List.range n).map (fun i => fs.getD i .wrAll) = fs := by
  apply List.ext_getElem?
  intro i
  rw [List.getElem?_map]
  rcases Nat.lt_or_ge i n with hi | hi
  · rw [List.getElem?_range hi]
    have : i < fs.length := by omega
    simp [this]
  · rw [List.getElem?_eq_none (by simpa using hi), List.getElem?_eq_none (by omega)]; rfl
theorem region_sim {run : CallF} {loop : LoopF} (hcall : CallOk P (callD M run)) (hmix : P.follows .mixedOrders = true) {id : Nat} {ops : Array Oper} {draw : Bool} (hgood : goodReg M N ops draw = true) {e e' : Env} {ex : Ex} {a : Act}
    (h : evCode P (callD M run) loop (.region id ops draw) e σ = some (ex, e', σ')) (hsl : Slots Γ w e a) (hs : SR Γ σ w) (hN : a.tmps.size = N)
    (hQ : ∀ a' w', CodeEnd N Γ σ w e' σ' a.defers a' w' → Q (exOf ex) a' w') : (Code.region id ops draw).wp P Q a w := by
  unfold evCode at h
  split at h
  case isFalse => cases h
  rename_i hdraw
  obtain ⟨⟨e1, σ1⟩, hev, heq⟩ := Option.map_eq_some_iff.1 h
  injection heq with h1 heq
  injection heq with h2 h3
  subst h1 h2 h3
  simp only [goodReg, Bool.and_eq_true, Bool.or_eq_true, Bool.not_eq_true'] at hgood
  obtain ⟨hdst, hdr⟩ := hgood
  have haid : aidAt ops σ.length 0 = σ.length := by simp [aidAt, nallocs]
  rw [← haid] at hev
  obtain ⟨fs, k1, k2, k3⟩ := evL_I ops.toList 0 (by simp) hev
  rw [haid] at k2
  have hpend : ∀ (Γ0 : Ctx) (I : List Nat), Γ0 = Γ → Pend ops σ.length Γ0 (σ ++ List.replicate (nallocs ops.toList) none) I := by
    rintro Γ0 I rfl i hi o ho hal
    have ht := aid_total (base := σ.length) ho hal
    refine ⟨fun hA => ?_, by simpa using ht⟩
    have := hs.below _ hA
    unfold aidAt at this
    omega
  simp only [Array.length_toList, ← List.range_eq_range'] at k1
  cases draw with
  | false =>
    refine wp_region ?_
    refine ops_sim hcall (dstsOk_spec hdst) k1 hsl (hs.pad _) hN List.nodup_range (hpend _ _ rfl) (by simp) ?_
    intro a' w' hr
    exact hQ a' w' (hr.code rfl rfl rfl rfl)
  | true =>
    obtain ⟨htopo, hpure⟩ := hdr.resolve_left (by simp)
    have hfine : AllFine M ops (fun i => fs.getD i .wrAll) := by
      refine allFine hpure ?_
      unfold drawOk at hdraw
      by_cases hb : (badPairs ops).isEmpty = true
      · exact .inl hb
      · simp only [hb, Bool.not_false, Bool.and_self, if_true, k2] at hdraw
        exact .inr hdraw
    refine wp_region_any hmix ?_
    have hrem : rem ops (Array.replicate ops.size false) = List.range ops.size := by
      unfold rem
      rw [List.filter_eq_self]
      intro i hi
      have := List.mem_range.1 hi
      simp [this]
    refine draw_sim hcall (dstsOk_spec hdst) htopo hfine ops.size (by simp) ?_ (by rw [hrem]; simp) (base := σ.length) (Γ := Γ) (e := e) (σ := σ ++ List.replicate (nallocs ops.toList) none) (e' := e1) (σ' := σ1) ?_ ?_ ?_ hN ?_ (by simp) ?_
    · intro i o ho hl
      exfalso
      have hlt : i < ops.size := (Array.getElem?_eq_some_iff.1 ho).1
      simp [hlt] at hl
    · rw [hrem, map_getD (by simpa using k3)]
      exact k1
    · exact fun t => R.ofHeap (w := w) (w' := { w with drawn := w.drawn + 1 }) rfl (hsl t)
    · exact SR.ofHeap (w := w) (w' := { w with drawn := w.drawn + 1 }) rfl (hs.pad _)
    · exact hpend _ _ rfl
    · intro a' w' hr
      exact hQ a' w' (RegEnd.code (w := w) (w0 := { w with drawn := w.drawn + 1 }) rfl rfl rfl rfl hr)

/-! ### code -/
def LoopOk (P : Program) (M : Modes) (loop : LoopF) : Prop :=
  ∀ (c : Code) (N : Nat) (e : Env) (σ : Store) (ex : Ex) (e' : Env) (σ' : Store) (Γ : Ctx) (w : World) (a : Act) (Q : Exit → Act → World → Prop), goodCode M N c = true → loop c e σ = some (ex, e', σ') → Slots Γ w e a → SR Γ σ w → a.tmps.size = N →
    (∀ a' w', CodeEnd N Γ σ w e' σ' a.defers a' w' → Q (exOf ex) a' w') → (Code.loop c).wp P Q a w
theorem code_sim {run : CallF} {loop : LoopF} (hcall : CallOk P (callD M run)) (hloop : LoopOk P M loop) (hmix : P.follows .mixedOrders = true) :
    ∀ (c : Code) {Γ : Ctx} {w : World} {e e' : Env} {σ σ' : Store} {ex : Ex} {a : Act} {Q : Exit → Act → World → Prop}, goodCode M N c = true → evCode P (callD M run) loop c e σ = some (ex, e', σ') → Slots Γ w e a → SR Γ σ w → a.tmps.size = N →
    (∀ a' w', CodeEnd N Γ σ w e' σ' a.defers a' w' → Q (exOf ex) a' w') → c.wp P Q a w := by
  intro c
  have same : ∀ {Γ : Ctx} {w : World} {e : Env} {σ : Store} {a : Act}, Slots Γ w e a → SR Γ σ w → a.tmps.size = N → CodeEnd N Γ σ w e σ a.defers a w := fun h1 h2 h3 => ⟨_, h1, h2, .refl _ _ _, h3, rfl⟩
  induction c with
  | skip =>
    intro Γ w e e' σ σ' ex a Q hg h hsl hs hN hQ
    unfold evCode at h
    injection h with h; injection h with h1 h; injection h with h2 h3; subst h1 h2 h3
    exact wp_skip (hQ _ _ (same hsl hs hN))
  | label l =>
    intro Γ w e e' σ σ' ex a Q hg h hsl hs hN hQ
    unfold evCode at h
    injection h with h; injection h with h1 h; injection h with h2 h3; subst h1 h2 h3
    exact wp_label (hQ _ _ (same hsl hs hN))
  | ret =>
    intro Γ w e e' σ σ' ex a Q hg h hsl hs hN hQ
    unfold evCode at h
    injection h with h; injection h with h1 h; injection h with h2 h3; subst h1 h2 h3
    exact wp_ret (hQ _ _ (same hsl hs hN))
  | exit id =>
    intro Γ w e e' σ σ' ex a Q hg h hsl hs hN hQ
    unfold evCode at h
    injection h with h; injection h with h1 h; injection h with h2 h3; subst h1 h2 h3
    exact wp_exit (hQ _ _ (same hsl hs hN))
  | region id ops draw =>
    intro Γ w e e' σ σ' ex a Q hg h hsl hs hN hQ
    exact region_sim hcall hmix hg h hsl hs hN hQ
  | seq x y ihx ihy =>
    intro Γ w e e' σ σ' ex a Q hg h hsl hs hN hQ
    simp only [goodCode, Bool.and_eq_true] at hg
    unfold evCode at h
    refine wp_seq ?_
    cases hx : evCode P (callD M run) loop x e σ with
    | none => rw [hx] at h; cases h
    | some q =>
      obtain ⟨ex1, e1, σ1⟩ := q
      rw [hx] at h
      refine ihx hg.1 hx hsl hs hN ?_
      intro a1 w1 hc
      cases ex1 with
      | normal =>
        obtain ⟨Γ1, k1, k2, k3, k4, k5⟩ := hc
        refine ihy hg.2 h k1 k2 k4 ?_
        intro a' w' hc'
        rw [k5] at hc'
        exact hQ a' w' (hc'.step k3)
      | exit id =>
        injection h with h; injection h with h1 h; injection h with h2 h3; subst h1 h2 h3
        exact hQ a1 w1 hc
      | ret =>
        injection h with h; injection h with h1 h; injection h with h2 h3; subst h1 h2 h3
        exact hQ a1 w1 hc
  | cond c x y ihx ihy =>
    intro Γ w e e' σ σ' ex a Q hg h hsl hs hN hQ
    simp only [goodCode, Bool.and_eq_true] at hg
    have hc := hsl.opnd c
    unfold evCode at h
    split at h
    · rename_i ho
      rw [ho] at hc
      exact wp_cond_true (R1.bool.1 hc) (ihx hg.1 h hsl hs hN hQ)
    · rename_i ho
      rw [ho] at hc
      exact wp_cond_false (R1.bool.1 hc) (ihy hg.2 h hsl hs hN hQ)
    · cases h
  | block id x ih =>
    intro Γ w e e' σ σ' ex a Q hg h hsl hs hN hQ
    unfold evCode at h
    refine wp_block ?_
    cases hx : evCode P (callD M run) loop x e σ with
    | none => rw [hx] at h; cases h
    | some q =>
      obtain ⟨ex1, e1, σ1⟩ := q
      rw [hx] at h
      refine ih hg hx hsl hs hN ?_
      intro a1 w1 hc
      cases ex1 with
      | normal =>
        injection h with h; injection h with h1 h; injection h with h2 h3; subst h1 h2 h3
        exact hQ a1 w1 hc
      | exit id' =>
        simp only at h
        simp only [exOf, Exit.inBlock]
        by_cases hid : id' = id
        · rw [if_pos hid] at h ⊢
          injection h with h; injection h with h1 h; injection h with h2 h3; subst h1 h2 h3
          exact hQ a1 w1 hc
        · rw [if_neg hid] at h ⊢
          injection h with h; injection h with h1 h; injection h with h2 h3; subst h1 h2 h3
          exact hQ a1 w1 hc
      | ret =>
        injection h with h; injection h with h1 h; injection h with h2 h3; subst h1 h2 h3
        exact hQ a1 w1 hc
  | scope x ih =>
    intro Γ w e e' σ σ' ex a Q hg h hsl hs hN hQ
    unfold evCode at h
    refine wp_scope_straight (ih hg h hsl hs hN fun a1 w1 hc => ?_)
    have := hQ a1 w1 hc
    cases ex <;> exact this
  | loop x _ =>
    intro Γ w e e' σ σ' ex a Q hg h hsl hs hN hQ
    unfold evCode at h
    exact hloop x N e σ ex e' σ' Γ w a Q hg h hsl hs hN hQ
  | _ => intro Γ w e e' σ σ' ex a Q hg; simp [goodCode] at hg

/-! ### results -/
theorem res_ok {e : Env} {a : Act} (hs : SR Γ σ w) (hsl : Slots Γ w e a) {rv : ResultVar} {d : D} (h : resD P e σ rv = some d) :
    ∃ v, (match rv with | .tmp t => (pure (a.tmps.getD t Go.undef) : Sem Value) | .cell x t => do loadVar t (← asAddr (a.tmps.getD x Go.undef))).run P w = .ok v w ∧ R1 Γ w d v := by
  cases rv with
  | tmp t =>
    unfold resD at h
    injection h with h; subst h
    exact ⟨_, rfl, hsl t⟩
  | cell x t =>
    unfold resD at h
    obtain ⟨⟨v, f⟩, hv, rfl⟩ := Option.map_eq_some_iff.1 h
    have hd := hsl x
    unfold evLoad at hv
    split at hv
    · rename_i id i j hex
      rw [hex] at hd
      split at hv
      · rename_i st esz xs ho
        split at hv
        · rename_i y hy
          obtain ⟨hA, hval⟩ := R1.ptr.1 hd
          obtain ⟨v', hv', hh⟩ := Option.map_eq_some_iff.1 hv
          injection hh with hh1 hh2
          subst hh1
          obtain ⟨he, _, us, hu, hc⟩ := row_cells (hs.row _ _ _ _ ho).1 hy
          obtain ⟨z, hz, hr⟩ := sub_run hv' he hu hc
          refine ⟨z, ?_, hr⟩
          simp only [hval]
          simpa [asAddr, adr] using hz
        · cases hv
      · cases hv
    · rename_i y j hex
      rw [hex] at hd
      obtain ⟨us, b, o, hval, hp, he, hu, hC, hc⟩ := R1.cpt.1 hd
      obtain ⟨v', hv', hh⟩ := Option.map_eq_some_iff.1 hv
      injection hh with hh1 hh2
      subst hh1
      obtain ⟨z, hz, hr⟩ := sub_run hv' he hu hc
      refine ⟨z, ?_, hr⟩
      simp only [hval]
      simpa [asAddr] using hz
    · cases hv
theorem results_list {e : Env} {a : Act} (hs : SR Γ σ w) (hsl : Slots Γ w e a) : ∀ {l : List ResultVar} {ds : List D}, l.mapM (resD P e σ) = some ds →
    ∃ vs, (l.mapM fun rv : ResultVar => match rv with | .tmp t => (pure (a.tmps.getD t Go.undef) : Sem Value) | .cell x t => do loadVar t (← asAddr (a.tmps.getD x Go.undef))).run P w = .ok vs w ∧ R Γ w none ds vs
  | [], ds, h => by
    simp only [List.mapM_nil] at h
    injection h with h; subst h
    exact ⟨[], rfl, .nil _⟩
  | rv :: l, ds, h => by
    rw [List.mapM_cons] at h
    cases h1 : resD P e σ rv with
    | none => simp [h1] at h
    | some d =>
      cases h2 : l.mapM (resD P e σ) with
      | none => simp [h1, h2] at h
      | some ds' =>
        simp [h1, h2] at h
        subst h
        obtain ⟨v, hv, hr⟩ := res_ok hs hsl h1
        obtain ⟨vs, hvs, hrs⟩ := results_list hs hsl h2
        refine ⟨v :: vs, ?_, R.cons hr hrs⟩
        rw [List.mapM_cons, Sem.run_bind, hv, Result.andThen_ok, Sem.run_bind, hvs]
        rfl
theorem results_ok {e : Env} {a : Act} (hs : SR Γ σ w) (hsl : Slots Γ w e a) {fn : Func} {d : D} (h : resultsD P fn.results.toList e σ = some d) :
    ∃ v, (results fn a.tmps).run P w = .ok v w ∧ R1 Γ w d v := by
  have key : ∀ (vs : List Value), (fn.results.toList.mapM fun rv : ResultVar => match rv with | .tmp t => (pure (a.tmps.getD t Go.undef) : Sem Value) | .cell x t => do loadVar t (← asAddr (a.tmps.getD x Go.undef))).run P w = .ok vs w →
      (results fn a.tmps).run P w = .ok (if h : vs.length = 1 then vs[0] else .tuple vs.toArray) w := by
    intro vs hvs
    unfold results
    rw [Array.mapM_eq_mapM_toList, Sem.run_bind, Sem.run_map]
    erw [hvs]
    simp only [Result.andThen_ok]
    by_cases h1 : vs.length = 1
    · simp [h1]
    · simp [h1]
  unfold resultsD at h
  split at h
  · rename_i r hr
    obtain ⟨vs, hvs, hrel⟩ := results_list (ds := [d]) hs hsl (l := fn.results.toList) (by rw [hr, List.mapM_cons, h]; rfl)
    have hl := hrel.length
    refine ⟨_, key vs hvs, ?_⟩
    obtain ⟨v, vs', rfl, h1, h2⟩ := hrel.cons_inv
    rw [h2.nil_inv]
    exact h1
  · rename_i hne
    obtain ⟨ds, hds, rfl⟩ := Option.map_eq_some_iff.1 h
    obtain ⟨vs, hvs, hrel⟩ := results_list hs hsl hds
    refine ⟨_, key vs hvs, ?_⟩
    have hl := hrel.length
    have hn : vs.length ≠ 1 := by
      intro h1
      rw [h1] at hl
      have h3 : fn.results.toList.length = 1 := by
        have : ∀ {l : List ResultVar} {ds : List D}, l.mapM (resD P e σ) = some ds → ds.length = l.length := by
          intro l
          induction l with
          | nil => intro ds h; simp only [List.mapM_nil] at h; injection h with h; subst h; rfl
          | cons x l ih =>
            intro ds h
            rw [List.mapM_cons] at h
            cases h1 : resD P e σ x with
            | none => simp [h1] at h
            | some d =>
              cases h2 : l.mapM (resD P e σ) with
              | none => simp [h1, h2] at h
              | some ds' => simp [h1, h2] at h; subst h; simp [ih h2]
        rw [← this hds]; exact hl
      obtain ⟨r, hr⟩ := List.length_eq_one_iff.1 h3
      exact hne r hr
    rw [dif_neg hn]
    exact R1.tup.2 ⟨vs, rfl, hrel⟩
end
end Go.Proofs.Ytgibpomhiilehaa.Dv
