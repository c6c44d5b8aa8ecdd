/- Operations that stand in no order give the same in both orders. -/
import Derived.Test.YtgibpomhiilehaaDvStep
set_option linter.unusedVariables false
set_option linter.unusedSimpArgs false
namespace Go.Proofs.Ytgibpomhiilehaa.Dv
open Go

section
variable {P : Program} {M : Modes} {call : CallF} {ops : Array Oper}

/-! ### what an operation looks at -/
theorem map_congr_mem {ps : Array (Nat × Operand)} {e e' : Env} (h : ∀ x ∈ (ps.toList.map (·.2)).toArray, opnd e x = opnd e' x) :
    (ps.toList.map fun p => (p.1, opnd e p.2)) = ps.toList.map fun p => (p.1, opnd e' p.2) := by
  apply List.map_congr_left
  intro p hp
  rw [h p.2 (by simpa using ⟨p.1, by simpa using hp⟩)]
theorem args_congr {ps : Array Operand} {e e' : Env} (h : ∀ x ∈ ps, opnd e x = opnd e' x) : ps.toList.map (opnd e) = ps.toList.map (opnd e') :=
  List.map_congr_left fun x hx => h x (Array.mem_toList_iff.1 hx)
theorem evOp_congr {o : Oper} {e e' : Env} (h : ∀ x ∈ o.op.operands, opnd e x = opnd e' x) (aid : Nat) (σ : Store) : evOp P o e aid σ = evOp P o e' aid σ := by
  obtain ⟨dst, op, type, pos, after, guard⟩ := o
  cases op <;> simp only [Op.operands] at h <;> simp only [evOp]
  case build t ps => rw [map_congr_mem h]
  case buildSlice t n ps => rw [map_congr_mem h]
  case makeFunc fn first caps =>
    cases fn <;> simp only
    rw [args_congr (ps := first) fun x hx => h x (by simp [hx]), args_congr (ps := caps) fun x hx => h x (by simp [hx])]
  case call c =>
    obtain ⟨callee, as, ts⟩ := c
    cases callee <;> simp only
    rw [args_congr (ps := as) fun x hx => h x (by simp [Call.operands, hx])]
  case slice t x lo hi mx => cases lo <;> cases hi <;> cases mx <;> simp_all
  case binOp op t x y yt =>
    simp only [evBinO]
    rw [h x (by simp), h y (by simp)]
  all_goals first | rfl | (simp_all; done)
theorem step_congr {o : Oper} {e e' : Env} (h : ∀ x ∈ o.op.operands, opnd e x = opnd e' x) (aid : Nat) (σ : Store) : step P call o e aid σ = step P call o e' aid σ := by
  cases hg : isGo o with
  | false => rw [step_other hg, step_other hg, evOp_congr h]
  | true =>
    obtain ⟨f, as, ts, ho⟩ := isGo_true hg
    rw [step_go ho, step_go ho]
    rw [ho] at h
    simp only [Op.operands, Call.operands] at h
    have hf : opnd e f = opnd e' f := h f (by simp)
    have ha := args_congr (ps := as) fun x hx => h x (by simp [hx])
    unfold evCallee
    simp only [hf, ha]
theorem opnd_put {e : Env} {dst : Option Nat} {v : D} {x : Operand} (h : ∀ d, dst = some d → x ≠ .tmp d) : opnd (putO e dst v) x = opnd e x := by
  cases dst with
  | none => rfl
  | some d =>
    cases x with
    | tmp t =>
      have hne : t ≠ d := fun hh => h d rfl (hh ▸ rfl)
      simp [opnd, putO, Env.put, hne]
    | _ => rfl
theorem step_put {o : Oper} {e : Env} {dst : Option Nat} {v : D} (h : ∀ d, dst = some d → d ∉ o.looksAt ops) (aid : Nat) (σ : Store) : step P call o (putO e dst v) aid σ = step P call o e aid σ :=
  step_congr (fun x hx => opnd_put fun d hd hxd => h d hd (by
    subst hxd
    exact List.mem_append_left _ (List.mem_filterMap.2 ⟨.tmp d, by simpa using hx, rfl⟩))) aid σ
theorem wants_put {o : Oper} {e : Env} {dst : Option Nat} {v : D} (h : ∀ d, dst = some d → d ∉ o.looksAt ops) : wants ops (putO e dst v) o = wants ops e o := by
  cases dst with
  | none => rfl
  | some d =>
    unfold wants
    cases hg : o.guard with
    | none => rfl
    | some gw =>
      obtain ⟨g, want⟩ := gw
      simp only
      cases ht : (ops[g]?).bind (·.dst) with
      | none => rfl
      | some t =>
        have hne : t ≠ d := fun hh => h d rfl (by subst hh; simp [Oper.looksAt, hg, ht])
        simp [putO, Env.put, hne]
theorem putO_comm {e : Env} {x y : Option Nat} {v u : D} (h : ∀ d, x = some d → y ≠ some d) : putO (putO e x v) y u = putO (putO e y u) x v := by
  cases x with
  | none => rfl
  | some d =>
    cases y with
    | none => rfl
    | some c =>
      have hne : d ≠ c := fun hh => h d rfl (hh ▸ rfl)
      funext i
      simp only [putO, Env.put]
      by_cases h1 : i = c <;> by_cases h2 : i = d <;> simp_all

/-! ### where an operation sets its foot -/
def stepW (P : Program) (call : CallF) (ops : Array Oper) (o : Oper) (aid : Nat) (e : Env) (σ : Store) : Option (D × Store × Foot) :=
  match wants ops e o with
  | some true => step P call o e aid σ
  | some false => some (.undef, σ, .none)
  | none => none
theorem stepW_put {o : Oper} {e : Env} {dst : Option Nat} {v : D} (h : ∀ d, dst = some d → d ∉ o.looksAt ops) (aid : Nat) (σ : Store) : stepW P call ops o aid (putO e dst v) σ = stepW P call ops o aid e σ := by
  unfold stepW; rw [wants_put h, step_put h]
/-- The same rows, whatever may be done with them. -/
def Same1 (σ σ' : Store) (id : Nat) : Prop := ∀ st e xs, σ.obj id = some (.row st e xs) → ∃ st', σ'.obj id = some (.row st' e xs)
def Local (F : Store → Option (D × Store × Foot)) (σ : Store) (v : D) (s : Store) : Foot → Prop
  | .none => s = σ ∧ ∀ σ', F σ' = some (v, σ', .none)
  | .rd id => s = σ ∧ ∀ σ', Same1 σ σ' id → F σ' = some (v, σ', .rd id)
  | .wr id => ∃ o, s = σ.put id o ∧ ∀ σ', σ'.obj id = σ.obj id → F σ' = some (v, σ'.put id o, .wr id)
  | .new id => ∃ o, s = σ.put id o ∧ ∀ σ', F σ' = some (v, σ'.put id o, .new id)
  | _ => True
theorem Local.pureOp {G : Option D} {F : Store → Option (D × Store × Foot)} (hF : ∀ σ, F σ = G.map fun d => (d, σ, .none)) {σ : Store} {r : D × Store × Foot} (h : F σ = some r) : Local F σ r.1 r.2.1 r.2.2 := by
  rw [hF] at h
  obtain ⟨d, hd, rfl⟩ := Option.map_eq_some_iff.1 h
  exact ⟨rfl, fun σ' => by rw [hF, hd]; rfl⟩
theorem Local.readOp {G : Store → Option (D × Foot)} (hG : ∀ σ v f, G σ = some (v, f) → (f = .none ∧ ∀ σ', G σ' = some (v, .none)) ∨ (∃ id, f = .rd id ∧ ∀ σ', Same1 σ σ' id → G σ' = some (v, .rd id)))
    {F : Store → Option (D × Store × Foot)} (hF : ∀ σ, F σ = (G σ).map fun r => (r.1, σ, r.2)) {σ : Store} {r : D × Store × Foot} (h : F σ = some r) : Local F σ r.1 r.2.1 r.2.2 := by
  rw [hF] at h
  obtain ⟨⟨d, f⟩, hd, rfl⟩ := Option.map_eq_some_iff.1 h
  rcases hG _ _ _ hd with ⟨rfl, k⟩ | ⟨id, rfl, k⟩
  · exact ⟨rfl, fun σ' => by rw [hF, k]; rfl⟩
  · exact ⟨rfl, fun σ' hs => by rw [hF, k _ hs]; rfl⟩
theorem load_local {T : TI} {a : D} (σ : Store) (v : D) (f : Foot) (h : evLoad T a σ = some (v, f)) :
    (f = .none ∧ ∀ σ', evLoad T a σ' = some (v, .none)) ∨ (∃ id, f = .rd id ∧ ∀ σ', Same1 σ σ' id → evLoad T a σ' = some (v, .rd id)) := by
  cases a with
  | ptr id i j =>
    right
    unfold evLoad at h
    simp only at h
    split at h
    · rename_i ho
      split at h
      · rename_i x hx
        obtain ⟨y, hy, e⟩ := Option.map_eq_some_iff.1 h
        injection e with e1 e2
        subst e1
        refine ⟨id, e2.symm, fun σ' hs => ?_⟩
        obtain ⟨st', ho'⟩ := hs _ _ _ ho
        unfold evLoad
        simp only [ho', hx, hy]; rfl
      · cases h
    · cases h
  | cpt x j =>
    left
    unfold evLoad at h
    simp only at h
    obtain ⟨y, hy, e⟩ := Option.map_eq_some_iff.1 h
    injection e with e1 e2
    subst e1
    exact ⟨e2.symm, fun σ' => by unfold evLoad; simp only [hy]; rfl⟩
  | _ => simp [evLoad] at h
theorem esz_same {σ σ' : Store} {id n : Nat} (hs : Same1 σ σ' id) (h : σ.esz id = some n) : σ'.esz id = some n := by
  unfold Store.esz at h ⊢
  split at h
  · rename_i ho
    obtain ⟨st', ho'⟩ := hs _ _ _ ho
    rw [ho']; exact h
  · cases h
theorem indexAddr_local {t : TypeId} {x ix : D} (σ : Store) (v : D) (f : Foot) (h : evIndexAddr P t x ix σ = some (v, f)) :
    (f = .none ∧ ∀ σ', evIndexAddr P t x ix σ' = some (v, .none)) ∨ (∃ id, f = .rd id ∧ ∀ σ', Same1 σ σ' id → evIndexAddr P t x ix σ' = some (v, .rd id)) := by
  unfold evIndexAddr at h
  split at h
  · rename_i hk
    left
    split at h
    · rename_i hn
      split at h
      · rename_i y hy
        split at h
        · rename_i hc
          injection h with h; injection h with h1 h2; subst h1 h2
          exact ⟨rfl, fun σ' => by unfold evIndexAddr; simp only [hk, hn, hy, hc, if_true, and_self]⟩
        · cases h
      · cases h
    · cases h
  · rename_i hk
    right
    split at h
    · rename_i hc
      injection h with h; injection h with h1 h2; subst h1 h2
      refine ⟨_, rfl, fun σ' hs => ?_⟩
      unfold evIndexAddr
      simp only [hk]
      rw [if_pos ⟨hc.1, hc.2.1, hc.2.2.1, esz_same hs hc.2.2.2⟩]
    · cases h
  · rename_i hk
    left
    split at h
    · rename_i hc
      injection h with h; injection h with h1 h2; subst h1 h2
      exact ⟨rfl, fun σ' => by unfold evIndexAddr; simp only [hk]; rw [if_pos hc]⟩
    · cases h
  · rename_i hk
    left
    split at h
    · rename_i hc
      injection h with h; injection h with h1 h2; subst h1 h2
      exact ⟨rfl, fun σ' => by unfold evIndexAddr; simp only [hk]; rw [if_pos hc]⟩
    · cases h
  · cases h
theorem slice_local {t : TypeId} {x : D} {lo hi mx : Option D} (σ : Store) (v : D) (f : Foot) (h : evSlice P t x lo hi mx σ = some (v, f)) :
    (f = .none ∧ ∀ σ', evSlice P t x lo hi mx σ' = some (v, .none)) ∨ (∃ id, f = .rd id ∧ ∀ σ', Same1 σ σ' id → evSlice P t x lo hi mx σ' = some (v, .rd id)) := by
  unfold evSlice at h
  split at h
  · rename_i hk
    left
    split at h
    · cases h
    · rename_i hm
      split at h
      · rename_i h1 h2
        split at h
        · rename_i hc
          injection h with h; injection h with e1 e2; subst e1 e2
          exact ⟨rfl, fun σ' => by unfold evSlice; simp only [hk, h1, h2]; rw [if_neg hm, if_pos hc]⟩
        · cases h
      · cases h
  · rename_i hk
    left
    split at h
    · rename_i h1 h2 h3
      split at h
      · rename_i hc
        injection h with h; injection h with e1 e2; subst e1 e2
        exact ⟨rfl, fun σ' => by unfold evSlice; simp only [hk, h1, h2, h3]; rw [if_pos hc]⟩
      · cases h
    · cases h
  · rename_i hk
    right
    split at h
    · rename_i h1 h2 h3
      split at h
      · rename_i hc
        injection h with h; injection h with e1 e2; subst e1 e2
        refine ⟨_, rfl, fun σ' hs => ?_⟩
        unfold evSlice
        simp only [hk, h1, h2, h3]
        rw [if_pos ⟨hc.1, hc.2.1, hc.2.2.1, hc.2.2.2.1, hc.2.2.2.2.1, esz_same hs hc.2.2.2.2.2⟩]
      · cases h
    · cases h
  · cases h
theorem conv_local {s t : TypeId} {x : D} (σ : Store) (v : D) (f : Foot) (h : evConv P s t x σ = some (v, f)) : (f = .none ∧ ∀ σ', evConv P s t x σ' = some (v, .none)) ∨ (∃ id, f = .rd id ∧ ∀ σ', Same1 σ σ' id → evConv P s t x σ' = some (v, .rd id)) := by
  unfold evConv at h
  split at h
  · cases h
  · rename_i hkn
    split at h
    · rename_i hk
      injection h with h; injection h with e1 e2; subst e1 e2
      exact .inl ⟨rfl, fun σ' => by unfold evConv; rw [if_neg hkn]; simp only [hk]⟩
    · rename_i hk
      injection h with h; injection h with e1 e2; subst e1 e2
      exact .inl ⟨rfl, fun σ' => by unfold evConv; rw [if_neg hkn]; simp only [hk]⟩
    · rename_i id off len cap ex hk
      split at h
      · rename_i e hse
        split at h
        · rename_i st esz xs hke ho
          split at h
          · rename_i hc
            obtain ⟨ns, hns, hh⟩ := Option.map_eq_some_iff.1 h
            injection hh with e1 e2; subst e1 e2
            refine .inr ⟨id, rfl, fun σ' hs => ?_⟩
            unfold evConv
            rw [if_neg hkn]
            obtain ⟨st', ho'⟩ := hs _ _ _ ho
            simp only [hk, hse, hke, ho']
            rw [if_pos hc, hns]
            rfl
          · cases h
        · cases h
      · cases h
    · cases h
theorem Local.anyOf {F : Store → Option (D × Store × Foot)} {σ : Store} {v : D} {s : Store} {f : Foot} (h : f = .wrAll ∨ f = .rdAll) : Local F σ v s f := by
  rcases h with rfl | rfl <;> trivial
theorem append_foot {t : TypeId} {s x : D} {aid : Nat} {σ : Store} {r : D × Store × Foot} (h : evAppend P t s x aid σ = some r) : r.2.2 = .wrAll := by
  unfold evAppend at h
  split at h
  · simp only at h
    split at h
    · split at h
      · split at h
        · split at h
          · split at h
            · injection h with h; subst h; rfl
            · split at h
              · injection h with h; subst h; rfl
              · cases h
          · split at h
            · split at h
              · split at h
                · injection h with h; subst h; rfl
                · split at h
                  · injection h with h; subst h; rfl
                  · split at h
                    · injection h with h; subst h; rfl
                    · cases h
              · cases h
            · cases h
          · cases h
        · cases h
      · cases h
    · cases h
  · cases h
theorem appendZ_foot {t : TypeId} {s : D} {n : Int} {aid : Nat} {σ : Store} {r : D × Store × Foot} (h : evAppendZ P t s n aid σ = some r) : r.2.2 = .wrAll := by
  unfold evAppendZ at h
  split at h
  · simp only at h
    split at h
    · split at h
      · injection h with h; subst h; rfl
      · cases h
    · cases h
  · simp only at h
    split at h
    · injection h with h; subst h; rfl
    · cases h
  · cases h
theorem copy_foot {t : TypeId} {s x : D} {σ : Store} {r : D × Store × Foot} (h : evCopy P t s x σ = some r) : r.2.2 = .wrAll := by
  unfold evCopy at h
  split at h
  · split at h
    · simp only at h
      split at h
      · injection h with h; subst h; rfl
      · cases h
    · cases h
  · cases h
theorem clear_foot {t : TypeId} {s : D} {σ : Store} {r : D × Store × Foot} (h : evClear P t s σ = some r) : r.2.2 = .wrAll := by
  unfold evClear at h
  split at h
  · simp only at h
    split at h
    · split at h
      · injection h with h; subst h; rfl
      · cases h
    · cases h
  · cases h
theorem store_local {T : TI} {a v : D} {F : Store → Option (D × Store × Foot)} (hF : ∀ σ, F σ = (evStore T a v σ).map fun r => (.undef, r.1, r.2)) {σ : Store} {r : D × Store × Foot} (h : F σ = some r) : Local F σ r.1 r.2.1 r.2.2 := by
  rw [hF] at h
  obtain ⟨⟨s, f⟩, hd, rfl⟩ := Option.map_eq_some_iff.1 h
  simp only
  unfold evStore at hd
  split at hd
  · rename_i id i j
    split at hd
    · rename_i ho
      split at hd
      · rename_i x hx
        split at hd
        · rename_i hok
          obtain ⟨y, hy, e⟩ := Option.map_eq_some_iff.1 hd
          injection e with e1 e2
          subst e1 e2
          refine ⟨_, rfl, fun σ' hs => ?_⟩
          rw [hF]
          unfold evStore
          simp only [hs, ho, hx]
          rw [if_pos hok, hy]; rfl
        · cases hd
      · cases hd
    · cases hd
  · cases hd
theorem builtin_local {b : Builtin} {ats : List TypeId} {xs : List D} {aid : Nat} {σ : Store} {r : D × Store × Foot} (h : evBuiltin P b ats xs aid σ = some r) : Local (evBuiltin P b ats xs aid) σ r.1 r.2.1 r.2.2 := by
  unfold evBuiltin at h
  split at h
  · split at h
    · rename_i hk
      split at h
      · injection h with h; subst h
        exact ⟨rfl, fun σ' => by unfold evBuiltin; simp only [hk]⟩
      · cases h
    · rename_i hk
      split at h
      · obtain ⟨n, hn, rfl⟩ := Option.map_eq_some_iff.1 h
        exact ⟨rfl, fun σ' => by unfold evBuiltin; simp only [hk, hn]; rfl⟩
      · obtain ⟨n, hn, rfl⟩ := Option.map_eq_some_iff.1 h
        exact ⟨rfl, fun σ' => by unfold evBuiltin; simp only [hk, hn]; rfl⟩
      · cases h
    · cases h
  · split at h
    · rename_i hk
      obtain ⟨n, hn, rfl⟩ := Option.map_eq_some_iff.1 h
      exact ⟨rfl, fun σ' => by unfold evBuiltin; simp only [hk, hn]; rfl⟩
    · cases h
  · split at h
    · exact .anyOf (.inl (append_foot h))
    · split at h
      · exact .anyOf (.inl (appendZ_foot h))
      · cases h
    · cases h
  · exact .anyOf (.inl (copy_foot h))
  · exact .anyOf (.inl (clear_foot h))
  · obtain ⟨n, hn, rfl⟩ := Option.map_eq_some_iff.1 h
    exact ⟨rfl, fun σ' => by unfold evBuiltin; simp only [hn]; rfl⟩
  · obtain ⟨n, hn, rfl⟩ := Option.map_eq_some_iff.1 h
    exact ⟨rfl, fun σ' => by unfold evBuiltin; simp only [hn]; rfl⟩
  · cases h
theorem buildSlice_local {t : TypeId} {n : Nat} {ps : List (Nat × D)} {aid : Nat} {σ : Store} {r : D × Store × Foot} (h : evBuildSlice P t n ps aid σ = some r) : Local (evBuildSlice P t n ps aid) σ r.1 r.2.1 r.2.2 := by
  unfold evBuildSlice at h
  split at h
  · rename_i hk
    simp only at h
    split at h
    · rename_i hc
      obtain ⟨xs, hx, rfl⟩ := Option.map_eq_some_iff.1 h
      exact ⟨_, rfl, fun σ' => by unfold evBuildSlice; simp only [hk]; rw [if_pos hc, hx]; rfl⟩
    · cases h
  · cases h
theorem makeSlice_local {t : TypeId} {l c : D} {aid : Nat} {σ : Store} {r : D × Store × Foot} (h : evMakeSlice P t l c aid σ = some r) : Local (evMakeSlice P t l c aid) σ r.1 r.2.1 r.2.2 := by
  unfold evMakeSlice at h
  split at h
  · rename_i hk
    simp only at h
    split at h
    · rename_i hc
      injection h with h; subst h
      exact ⟨_, rfl, fun σ' => by unfold evMakeSlice; simp only [hk]; rw [if_pos hc]⟩
    · cases h
  · cases h
theorem evOp_local {o : Oper} {e : Env} {aid : Nat} {σ : Store} {r : D × Store × Foot} (h : evOp P o e aid σ = some r) : Local (evOp P o e aid) σ r.1 r.2.1 r.2.2 := by
  obtain ⟨dst, op, type, pos, after, guard⟩ := o
  cases op
  case move x => exact Local.pureOp (G := some (opnd e x)) (fun σ => rfl) h
  case assign x => exact Local.pureOp (G := some (opnd e x)) (fun σ => rfl) h
  case pick c a b =>
    simp only [evOp] at h
    split at h
    · rename_i hc
      injection h with h; subst h
      exact ⟨rfl, fun σ' => by simp only [evOp, hc]⟩
    · cases h
  case alloc t =>
    simp only [evOp] at h
    split at h
    · rename_i hc
      injection h with h; subst h
      exact ⟨_, rfl, fun σ' => by simp only [evOp]; rw [if_pos hc]⟩
    · cases h
  case box t x =>
    simp only [evOp] at h
    split at h
    · rename_i hc
      injection h with h; subst h
      exact ⟨_, rfl, fun σ' => by simp only [evOp]; rw [if_pos hc]⟩
    · cases h
  case build t ps => exact Local.pureOp (fun σ => rfl) h
  case buildSlice t n ps => exact buildSlice_local h
  case makeSlice t l c => exact makeSlice_local h
  case load t a => exact Local.readOp load_local (fun σ => rfl) h
  case store t a x => exact store_local (fun σ => rfl) h
  case nilCheck x =>
    simp only [evOp] at h
    split at h
    · rename_i hc; injection h with h; subst h; exact ⟨rfl, fun σ' => by simp only [evOp, hc]⟩
    · rename_i hc; injection h with h; subst h; exact ⟨rfl, fun σ' => by simp only [evOp, hc]⟩
    · rename_i hc; injection h with h; subst h; exact ⟨rfl, fun σ' => by simp only [evOp, hc]⟩
    · cases h
  case binOp => exact Local.pureOp (fun σ => rfl) h
  case unOp => exact Local.pureOp (fun σ => rfl) h
  case convert => exact Local.readOp (fun σ v f h => conv_local σ v f h) (fun σ => rfl) h
  case makeFunc fn first caps =>
    cases fn <;> simp only [evOp] at h
    case func f =>
      injection h with h; subst h
      exact ⟨rfl, fun σ' => rfl⟩
    all_goals cases h
  case slice => exact Local.readOp slice_local (fun σ => rfl) h
  case fieldAddr => exact Local.pureOp (fun σ => rfl) h
  case field => exact Local.pureOp (fun σ => rfl) h
  case indexAddr => exact Local.readOp indexAddr_local (fun σ => rfl) h
  case index => exact Local.pureOp (fun σ => rfl) h
  case extract x ix =>
    simp only [evOp] at h
    split at h
    · rename_i hc
      split at h
      · rename_i hd
        injection h with h; subst h
        exact ⟨rfl, fun σ' => by simp only [evOp, hc, hd]⟩
      · cases h
    · cases h
  case call c =>
    obtain ⟨callee, as, ts⟩ := c
    cases callee
    case builtin b => exact builtin_local h
    all_goals (simp only [evOp] at h; cases h)
  all_goals (simp only [evOp] at h; cases h)
theorem stepW_local {o : Oper} {aid : Nat} {e : Env} {σ : Store} {v : D} {s : Store} {f : Foot} (h : stepW P call ops o aid e σ = some (v, s, f)) : Local (stepW P call ops o aid e) σ v s f := by
  unfold stepW at h
  split at h
  · rename_i hw
    have hF : stepW P call ops o aid e = step P call o e aid := by funext σ; unfold stepW; rw [hw]
    rw [hF]
    cases hg : isGo o with
    | false =>
      rw [step_other hg] at h
      have : step P call o e aid = evOp P o e aid := by funext σ; exact step_other hg e aid σ
      rw [this]
      exact evOp_local h
    | true =>
      obtain ⟨g, as, ts, ho⟩ := isGo_true hg
      rw [step_go ho] at h
      split at h
      · split at h
        · injection h with h; injection h with h1 h; injection h with h2 h3; subst h3; trivial
        · cases h
      · cases h
  · rename_i hw
    injection h with h; injection h with h1 h; injection h with h2 h3; subst h1 h2 h3
    exact ⟨rfl, fun σ' => by unfold stepW; rw [hw]⟩
  · cases h
end
end Go.Proofs.Ytgibpomhiilehaa.Dv
