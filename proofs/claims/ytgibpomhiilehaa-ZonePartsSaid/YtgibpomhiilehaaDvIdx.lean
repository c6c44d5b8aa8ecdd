/- A region by its indices: any order that is allowed comes to the same. -/
import Derived.Test.YtgibpomhiilehaaDvDraw
set_option linter.unusedVariables false
set_option linter.unusedSimpArgs false
namespace Go.Proofs.Ytgibpomhiilehaa.Dv
open Go

section
variable {P : Program} {M : Modes} {call : CallF} {ops : Array Oper} {base : Nat}

def aidAt (ops : Array Oper) (base i : Nat) : Nat := base + nallocs (ops.toList.take i)
def evI (P : Program) (call : CallF) (ops : Array Oper) (base : Nat) : List Nat → Env → Store → Option (Env × Store × List Foot)
  | [], e, σ => some (e, σ, [])
  | i :: rest, e, σ => match ops[i]? with
    | some o => match stepW P call ops o (aidAt ops base i) e σ with
      | some (v, σ', f) => match evI P call ops base rest (putO e o.dst v) σ' with
        | some (e', σ'', fs) => some (e', σ'', f :: fs)
        | none => none
      | none => none
    | none => none
theorem evI_cons {i : Nat} {rest : List Nat} {e e' : Env} {σ σ'' : Store} {fs : List Foot} : evI P call ops base (i :: rest) e σ = some (e', σ'', fs) ↔
    ∃ o v σ' f fs', ops[i]? = some o ∧ stepW P call ops o (aidAt ops base i) e σ = some (v, σ', f) ∧ evI P call ops base rest (putO e o.dst v) σ' = some (e', σ'', fs') ∧ fs = f :: fs' := by
  constructor
  · intro h
    unfold evI at h
    split at h
    · rename_i o ho
      split at h
      · rename_i v σ' f hs
        split at h
        · rename_i e1 s1 fs1 hr
          injection h with h; injection h with h1 h; injection h with h2 h3
          subst h1 h2
          exact ⟨o, v, σ', f, fs1, ho, hs, hr, h3.symm⟩
        · cases h
      · cases h
    · cases h
  · rintro ⟨o, v, σ', f, fs', ho, hs, hr, rfl⟩
    unfold evI
    simp only [ho, hs, hr]

/-- Two operations that may change places. -/
def Fine (M : Modes) (ops : Array Oper) (foot : Nat → Foot) (j i : Nat) : Prop :=
  ∀ x y, ops[j]? = some x → ops[i]? = some y → x.apart ops y = true ∧
    ((cls x).fits (cls y) = true ∧ (∀ f, cls x = .c f ∨ cls y = .c f → cls x = .q ∨ cls y = .q ∨ M.prim f = none ∧ (M.byref f = false ∨ M.ro f = true)) ∨ (foot j).fits (foot i) = true ∨
      (isCN (cls x) (cls y) = true ∧ (∀ f, cls x = .c f ∨ cls y = .c f → M.prim f = none ∧ M.byref f = false) ∧ (foot j).apartC (foot i) = true))
theorem nallocs_take_succ {i : Nat} {o : Oper} (ho : ops[i]? = some o) : nallocs (ops.toList.take (i + 1)) = nallocs (ops.toList.take i) + (if allocs o = true then 1 else 0) := by
  have hl : ops.toList[i]? = some o := by rw [Array.getElem?_toList]; exact ho
  rw [List.take_add_one, hl]
  unfold nallocs
  rw [List.filter_append, List.length_append]
  by_cases h : allocs o = true <;> simp [h]
theorem nallocs_mono {i j : Nat} (h : i ≤ j) : nallocs (ops.toList.take i) ≤ nallocs (ops.toList.take j) := by
  induction h with
  | refl => exact Nat.le_refl _
  | @step m _ ih =>
    refine Nat.le_trans ih ?_
    cases ho : ops[m]? with
    | some o => rw [nallocs_take_succ ho]; exact Nat.le_add_right _ _
    | none =>
      have hm : ops.toList.length ≤ m := by simpa using Array.getElem?_eq_none_iff.1 ho
      rw [List.take_of_length_le hm, List.take_of_length_le (by omega)]
      exact Nat.le_refl _
theorem aid_lt {i j : Nat} {o : Oper} (h : i < j) (ho : ops[i]? = some o) (ha : allocs o = true) : aidAt ops base i < aidAt ops base j := by
  unfold aidAt
  have h1 := nallocs_mono (ops := ops) (show i + 1 ≤ j from h)
  rw [nallocs_take_succ ho, if_pos ha] at h1
  omega
theorem aid_total {i : Nat} {o : Oper} (ho : ops[i]? = some o) (ha : allocs o = true) : aidAt ops base i < base + nallocs ops.toList := by
  have hlt : i < ops.size := (Array.getElem?_eq_some_iff.1 ho).1
  have := aid_lt (base := base) hlt ho ha
  unfold aidAt at this ⊢
  rw [List.take_of_length_le (i := ops.size) (by simp)] at this
  omega
theorem swap {run : CallF} {foot : Nat → Foot} {j i : Nat} (hji : j < i) {x y : Oper} (hx : ops[j]? = some x) (hy : ops[i]? = some y) (hf : Fine M ops foot j i) {e : Env} {σ σ1 σ2 : Store} {u v : D}
    (h1 : stepW P (callD M run) ops x (aidAt ops base j) e σ = some (u, σ1, foot j)) (h2 : stepW P (callD M run) ops y (aidAt ops base i) (putO e x.dst u) σ1 = some (v, σ2, foot i)) :
    ∃ τ, stepW P (callD M run) ops y (aidAt ops base i) e σ = some (v, τ, foot i) ∧ stepW P (callD M run) ops x (aidAt ops base j) (putO e y.dst v) τ = some (u, σ2, foot j) := by
  obtain ⟨hap, hfit⟩ := hf x y hx hy
  obtain ⟨a1, a2, a3⟩ := Oper.apart_spec hap
  rw [stepW_put a1] at h2
  suffices h : ∃ τ, stepW P (callD M run) ops y (aidAt ops base i) e σ = some (v, τ, foot i) ∧ stepW P (callD M run) ops x (aidAt ops base j) e τ = some (u, σ2, foot j) by
    obtain ⟨τ, k1, k2⟩ := h
    exact ⟨τ, k1, by rw [stepW_put a3]; exact k2⟩
  have l1 := stepW_local h1
  have l2 := stepW_local h2
  rcases hfit with ⟨hc, hpure⟩ | hft | ⟨hcn, hnr, hap2⟩
  case inr.inl => exact comm_feet h1 h2 l1 l2 hft
  case inr.inr =>
    have noneL : foot j = .none → ∃ τ, stepW P (callD M run) ops y (aidAt ops base i) e σ = some (v, τ, foot i) ∧ stepW P (callD M run) ops x (aidAt ops base j) e τ = some (u, σ2, foot j) := fun hn =>
      comm_feet h1 h2 l1 l2 (by rw [hn]; rfl)
    have noneR : foot i = .none → ∃ τ, stepW P (callD M run) ops y (aidAt ops base i) e σ = some (v, τ, foot i) ∧ stepW P (callD M run) ops x (aidAt ops base j) e τ = some (u, σ2, foot j) := fun hn =>
      comm_feet h1 h2 l1 l2 (by rw [hn]; cases foot j <;> rfl)
    have w1 := h1
    have w2 := h2
    rcases stepW_cases h1 with ⟨hn, _⟩ | s1
    · exact noneL hn
    rcases stepW_cases h2 with ⟨hn, _⟩ | s2
    · exact noneR hn
    have wt : ∀ {o : Oper} {aid : Nat} {σ : Store} {r : D × Store × Foot}, stepW P (callD M run) ops o aid e σ = some r → r.2.2 ≠ .none → ∀ s, stepW P (callD M run) ops o aid e s = step P (callD M run) o e aid s := by
      intro o aid σ r hr hne s
      unfold stepW at hr ⊢
      split at hr
      · rfl
      · injection hr with hr; subst hr; exact absurd rfl hne
      · cases hr
    cases cx : cls x with
    | c f =>
      cases cy : cls y with
      | n =>
        obtain ⟨hp, hb⟩ := hnr f (.inl cx)
        obtain ⟨as, hst, hcall, hfoot⟩ := cls_c_step cx s1
        obtain ⟨f2, b2⟩ := cls_n cy s2
        simp only at hcall hfoot f2
        rw [f2] at l2
        obtain ⟨o, ho, lo⟩ := l2
        rw [hfoot, f2] at hap2
        have hid : aidAt ops base i ∉ as.flatMap fun d => (lend σ d).2 := by
          intro hm
          simp only [Foot.apartC, Bool.not_eq_true'] at hap2
          rw [List.contains_iff_mem.2 hm] at hap2
          cases hap2
        obtain ⟨k1, k2⟩ := callD_put (o := o) hp hb hcall hid
        refine ⟨σ.put (aidAt ops base i) o, ?_, ?_⟩
        · rw [f2]; exact lo σ
        · rw [wt w1 (by rw [hfoot]; simp), hst, k1]
          simp only
          rw [k2, hfoot, ho]
      | _ => rw [cx, cy] at hcn; cases hcn
    | n =>
      cases cy : cls y with
      | c f =>
        obtain ⟨hp, hb⟩ := hnr f (.inr cy)
        obtain ⟨as, hst, hcall, hfoot⟩ := cls_c_step cy s2
        obtain ⟨f1, b1⟩ := cls_n cx s1
        simp only at hcall hfoot f1
        rw [f1] at l1
        obtain ⟨o, ho, lo⟩ := l1
        subst ho
        rw [hfoot, f1] at hap2
        have hid : aidAt ops base j ∉ as.flatMap fun d => (lend (σ.put (aidAt ops base j) o) d).2 := by
          intro hm
          simp only [Foot.apartC, Bool.not_eq_true'] at hap2
          rw [List.contains_iff_mem.2 hm] at hap2
          cases hap2
        have hback : ∀ (τ : Store) (a : Nat) (q : Option Ob), (τ.put a q).put a ((τ[a]?).getD none) = τ := by
          intro τ a q
          unfold Store.put
          rw [List.set_set]
          rcases Nat.lt_or_ge a τ.length with hl | hl
          · rw [List.getElem?_eq_getElem hl]
            simp
          · rw [List.set_eq_of_length_le hl]
        obtain ⟨k1, k2⟩ := callD_put (o := (σ[aidAt ops base j]?).getD none) hp hb hcall hid
        have k3 := callD_other hp hb hcall hid
        rw [hback] at k1 k2
        refine ⟨σ2.put (aidAt ops base j) ((σ[aidAt ops base j]?).getD none), ?_, ?_⟩
        · rw [wt w2 (by rw [hfoot]; simp), hst, k1]
          simp only
          rw [k2, hfoot]
        · rw [f1, lo]
          congr 2
          congr 1
          unfold Store.put
          rw [List.set_set]
          rcases Nat.lt_or_ge (aidAt ops base j) σ2.length with hl | hl
          · have hl2 : aidAt ops base j < σ.length := by
              have : (σ.put (aidAt ops base j) o)[aidAt ops base j]? = some σ2[aidAt ops base j] := by rw [← k3, List.getElem?_eq_getElem hl]
              have := (List.getElem?_eq_some_iff.1 this).1
              simpa [Store.put] using this
            have he : σ2[aidAt ops base j] = o := by
              rw [List.getElem?_eq_getElem hl] at k3
              unfold Store.put at k3
              rw [List.getElem?_set_self hl2] at k3
              injection k3
            rw [← he]
            simp
          · rw [List.set_eq_of_length_le hl]
      | _ => rw [cx, cy] at hcn; cases hcn
    | _ => rw [cx] at hcn; cases hcn
  have noneL : foot j = .none → ∃ τ, stepW P (callD M run) ops y (aidAt ops base i) e σ = some (v, τ, foot i) ∧ stepW P (callD M run) ops x (aidAt ops base j) e τ = some (u, σ2, foot j) := fun hn =>
    comm_feet h1 h2 l1 l2 (by rw [hn]; rfl)
  have noneR : foot i = .none → ∃ τ, stepW P (callD M run) ops y (aidAt ops base i) e σ = some (v, τ, foot i) ∧ stepW P (callD M run) ops x (aidAt ops base j) e τ = some (u, σ2, foot j) := fun hn =>
    comm_feet h1 h2 l1 l2 (by rw [hn]; cases foot j <;> rfl)
  rcases stepW_cases h1 with ⟨hn, _⟩ | s1
  · exact noneL hn
  rcases stepW_cases h2 with ⟨hn, _⟩ | s2
  · exact noneR hn
  cases cx : cls x with
  | q => exact noneL (cls_q cx s1)
  | r =>
    cases cy : cls y with
    | q => exact noneR (cls_q cy s2)
    | r =>
      have r1 := cls_r cx s1
      have r2 := cls_r cy s2
      refine comm_feet h1 h2 l1 l2 ?_
      simp only at r1 r2
      generalize foot j = f at *
      generalize foot i = g at *
      cases f <;> first | (cases r1; done) | skip
      all_goals (cases g <;> first | (cases r2; done) | rfl)
    | c f =>
      have hp := (hpure f (.inr cy)).resolve_left (by rw [cx]; simp) |>.resolve_left (by rw [cy]; simp)
      exact comm_read_call h1 h2 l1 (cls_c_same cy hp.1 hp.2 s2) (cls_r cx s1)
    | n => rw [cx, cy] at hc; cases hc
    | w => rw [cx, cy] at hc; cases hc
  | n =>
    cases cy : cls y with
    | q => exact noneR (cls_q cy s2)
    | n =>
      obtain ⟨f1, b1⟩ := cls_n cx s1
      obtain ⟨f2, b2⟩ := cls_n cy s2
      refine comm_feet h1 h2 l1 l2 ?_
      simp only at f1 f2
      rw [f1, f2]
      have := aid_lt (base := base) hji hx b1
      simp only [Foot.fits, bne_iff_ne, ne_eq]
      omega
    | r => rw [cx, cy] at hc; cases hc
    | c f => rw [cx, cy] at hc; cases hc
    | w => rw [cx, cy] at hc; cases hc
  | c f =>
    cases cy : cls y with
    | q => exact noneR (cls_q cy s2)
    | r =>
      have hp := (hpure f (.inl cx)).resolve_left (by rw [cx]; simp) |>.resolve_left (by rw [cy]; simp)
      exact comm_call_read h1 h2 l2 (cls_c_same cx hp.1 hp.2 s1) (cls_r cy s2)
    | n => rw [cx, cy] at hc; cases hc
    | c g => rw [cx, cy] at hc; cases hc
    | w => rw [cx, cy] at hc; cases hc
  | w =>
    cases cy : cls y with
    | q => exact noneR (cls_q cy s2)
    | _ => rw [cx, cy] at hc; cases hc
/-- What stands in no order with those ahead may come first. -/
theorem bubble {run : CallF} {foot : Nat → Foot} {i : Nat} {post : List Nat} : ∀ {pre : List Nat} {e e' : Env} {σ σ' : Store}, (∀ j ∈ pre, j < i ∧ Fine M ops foot j i) →
    evI P (callD M run) ops base (pre ++ i :: post) e σ = some (e', σ', (pre ++ i :: post).map foot) →
    ∃ o v τ, ops[i]? = some o ∧ stepW P (callD M run) ops o (aidAt ops base i) e σ = some (v, τ, foot i) ∧ evI P (callD M run) ops base (pre ++ post) (putO e o.dst v) τ = some (e', σ', (pre ++ post).map foot)
  | [], e, e', σ, σ', _, h => by
    obtain ⟨o, v, τ, f, fs, ho, hs, hr, hfs⟩ := evI_cons.1 h
    simp only [List.nil_append, List.map_cons, List.cons.injEq] at hfs
    obtain ⟨rfl, rfl⟩ := hfs
    exact ⟨o, v, τ, ho, hs, hr⟩
  | p :: pre, e, e', σ, σ', hf, h => by
    obtain ⟨x, u, σ1, f, fs, hx, hs, hr, hfs⟩ := evI_cons.1 (by simpa using h)
    simp only [List.cons.injEq] at hfs
    obtain ⟨rfl, rfl⟩ := hfs
    obtain ⟨o, v, σ2, ho, hs2, hr2⟩ := bubble (fun j hj => hf j (List.mem_cons_of_mem _ hj)) (by simpa using hr)
    obtain ⟨hlt, hfine⟩ := hf p (List.mem_cons_self ..)
    obtain ⟨τ, k1, k2⟩ := swap hlt hx ho hfine hs hs2
    refine ⟨o, v, τ, ho, k1, ?_⟩
    rw [List.cons_append]
    refine evI_cons.2 ⟨x, u, σ2, foot p, _, hx, k2, ?_, by rw [List.map_cons]⟩
    have := (Oper.apart_spec (hfine x o hx ho).1).2.1
    rw [← putO_comm this]
    exact hr2

/-! ### from the list to the indices -/
theorem evL_I : ∀ (l : List Oper) (k : Nat) {e : Env} {σ : Store} {r : Env × Store}, l = ops.toList.drop k → evL P call ops l (aidAt ops base k) e σ = some r →
    ∃ fs, evI P call ops base (List.range' k l.length) e σ = some (r.1, r.2, fs) ∧ feetL P call ops l (aidAt ops base k) e σ = some fs ∧ fs.length = l.length
  | [], k, e, σ, r, hl, h => by
    unfold evL at h
    injection h with h; subst h
    exact ⟨[], rfl, rfl, rfl⟩
  | o :: l, k, e, σ, r, hl, h => by
    have ho : ops[k]? = some o := by
      have : (ops.toList.drop k)[0]? = some o := by rw [← hl]; rfl
      rw [List.getElem?_drop] at this
      simpa using this
    have hl' : l = ops.toList.drop (k + 1) := by
      have : (ops.toList.drop k).tail = l := by rw [← hl]; rfl
      rw [← this, List.tail_drop]
    have haid : (if allocs o = true then aidAt ops base k + 1 else aidAt ops base k) = aidAt ops base (k + 1) := by
      unfold aidAt
      rw [nallocs_take_succ ho]
      split <;> omega
    unfold evL at h
    rw [haid] at h
    cases hw : wants ops e o with
    | none => simp [hw] at h
    | some b =>
      cases b with
      | false =>
        simp only [hw] at h
        obtain ⟨fs, h1, h2, h3⟩ := evL_I l (k + 1) hl' h
        refine ⟨.none :: fs, evI_cons.2 ⟨o, .undef, σ, .none, fs, ho, by unfold stepW; rw [hw], h1, rfl⟩, ?_, by simp [h3]⟩
        unfold feetL
        simp only [hw]
        rw [haid, h2]; rfl
      | true =>
        simp only [hw] at h
        cases hs : step P call o e (aidAt ops base k) σ with
        | none => simp [hs] at h
        | some q =>
          obtain ⟨v, σ', f⟩ := q
          simp only [hs] at h
          obtain ⟨fs, h1, h2, h3⟩ := evL_I l (k + 1) hl' h
          refine ⟨f :: fs, evI_cons.2 ⟨o, v, σ', f, fs, ho, by unfold stepW; rw [hw]; exact hs, h1, rfl⟩, ?_, by simp [h3]⟩
          unfold feetL
          simp only [hw, hs]
          rw [haid, h2]; rfl

/-! ### what stands ahead -/
def maskOf (ms : List Nat) (o : Oper) : Nat := o.after.foldl (fun m ed => if Region.binds .any ed then m ||| (1 <<< ed.on) ||| ms.getD ed.on 0 else m) 0
def masksL (l : List Oper) : List Nat := l.foldl (fun ms o => ms ++ [maskOf ms o]) []
theorem masks_eq : masks ops = masksL ops.toList := rfl
theorem masksL_snoc (l : List Oper) (o : Oper) : masksL (l ++ [o]) = masksL l ++ [maskOf (masksL l) o] := by simp [masksL]
theorem foldl_snoc {α β : Type} (g : List β → α → β) : ∀ (l : List α) (ms : List β), (l.foldl (fun ms o => ms ++ [g ms o]) ms).length = ms.length + l.length ∧ ∃ t, l.foldl (fun ms o => ms ++ [g ms o]) ms = ms ++ t
  | [], ms => ⟨rfl, [], by simp⟩
  | o :: l, ms => by
    obtain ⟨h1, t, h2⟩ := foldl_snoc g l (ms ++ [g ms o])
    refine ⟨?_, [g ms o] ++ t, ?_⟩
    · rw [List.foldl_cons, h1]; simp; omega
    · rw [List.foldl_cons, h2]; simp
theorem masksL_length (l : List Oper) : (masksL l).length = l.length := by
  have := (foldl_snoc maskOf l []).1
  simpa [masksL] using this
theorem masksL_append (l r : List Oper) : ∃ t, masksL (l ++ r) = masksL l ++ t := by
  unfold masksL
  rw [List.foldl_append]
  exact (foldl_snoc maskOf r _).2
theorem masks_get {i : Nat} {o : Oper} (ho : ops[i]? = some o) : (masks ops).getD i 0 = maskOf (masksL (ops.toList.take i)) o := by
  have hl : ops.toList[i]? = some o := by rw [Array.getElem?_toList]; exact ho
  have hlt : i < ops.toList.length := (List.getElem?_eq_some_iff.1 hl).1
  have hsplit : ops.toList = (ops.toList.take i ++ [o]) ++ ops.toList.drop (i + 1) := by
    have : ops.toList.take (i + 1) = ops.toList.take i ++ [o] := by rw [List.take_add_one, hl]; rfl
    rw [← this, List.take_append_drop]
  rw [masks_eq]
  obtain ⟨t, ht⟩ := masksL_append (ops.toList.take i ++ [o]) (ops.toList.drop (i + 1))
  rw [← hsplit] at ht
  rw [ht, masksL_snoc, List.append_assoc]
  have hlen : (masksL (ops.toList.take i)).length = i := by rw [masksL_length, List.length_take]; omega
  rw [List.getD_eq_getElem?_getD, List.getElem?_append_right (by omega), hlen]
  simp
theorem masks_take {i k : Nat} (h : k < i) (hi : i ≤ ops.size) : (masksL (ops.toList.take i)).getD k 0 = (masks ops).getD k 0 := by
  have hsplit : ops.toList = ops.toList.take i ++ ops.toList.drop i := (List.take_append_drop _ _).symm
  obtain ⟨t, ht⟩ := masksL_append (ops.toList.take i) (ops.toList.drop i)
  rw [← hsplit] at ht
  rw [masks_eq, ht, List.getD_eq_getElem?_getD, List.getD_eq_getElem?_getD, List.getElem?_append_left]
  rw [masksL_length, List.length_take, Array.length_toList]
  omega
theorem maskOf_bit {ms : List Nat} {j : Nat} : ∀ (l : List Edge) (m : Nat), (l.foldl (fun m ed => if Region.binds .any ed then m ||| (1 <<< ed.on) ||| ms.getD ed.on 0 else m) m).testBit j = true →
    m.testBit j = true ∨ ∃ ed ∈ l, Region.binds .any ed = true ∧ (j = ed.on ∨ (ms.getD ed.on 0).testBit j = true)
  | [], m, h => .inl h
  | ed :: l, m, h => by
    rw [List.foldl_cons] at h
    rcases maskOf_bit l _ h with h | ⟨x, hx, h⟩
    · by_cases hb : Region.binds .any ed = true
      · rw [if_pos hb, Nat.testBit_or, Nat.testBit_or, Bool.or_eq_true, Bool.or_eq_true] at h
        rcases h with (h | h) | h
        · exact .inl h
        · refine .inr ⟨ed, List.mem_cons_self .., hb, .inl ?_⟩
          rw [Nat.testBit_shiftLeft] at h
          simp only [Bool.and_eq_true, decide_eq_true_eq] at h
          obtain ⟨h1, h2⟩ := h
          have : j - ed.on = 0 := by
            rcases Nat.eq_zero_or_pos (j - ed.on) with h0 | h0
            · exact h0
            · rw [Nat.testBit_lt_two_pow] at h2
              · cases h2
              · exact Nat.one_lt_two_pow (by omega)
          omega
        · exact .inr ⟨ed, List.mem_cons_self .., hb, .inr h⟩
      · rw [if_neg hb] at h; exact .inl h
    · exact .inr ⟨x, List.mem_cons_of_mem _ hx, h⟩
/-- Every operation stands behind what it needs. -/
def topo (ops : Array Oper) : Bool := (List.range ops.size).all fun i => match ops[i]? with | some o => o.after.all fun ed => !Region.binds .any ed || decide (ed.on < i) | none => true
theorem topo_spec (h : topo ops = true) {i : Nat} {o : Oper} (ho : ops[i]? = some o) {ed : Edge} (he : ed ∈ o.after) (hb : Region.binds .any ed = true) : ed.on < i := by
  have hlt : i < ops.size := (Array.getElem?_eq_some_iff.1 ho).1
  have := List.all_eq_true.1 h i (List.mem_range.2 hlt)
  simp only [ho] at this
  have := Array.all_eq_true_iff_forall_mem.1 this ed he
  simpa [hb] using this
def Closed (ops : Array Oper) (listed : Array Bool) : Prop := ∀ i o, ops[i]? = some o → listed.getD i false = true → ∀ ed ∈ o.after, Region.binds .any ed = true → listed.getD ed.on false = true
theorem mask_listed (ht : topo ops = true) {listed : Array Bool} (hc : Closed ops listed) : ∀ (n i : Nat) (o : Oper), i ≤ n → ops[i]? = some o → (∀ ed ∈ o.after, Region.binds .any ed = true → listed.getD ed.on false = true) →
    ∀ j, ((masks ops).getD i 0).testBit j = true → listed.getD j false = true := by
  intro n
  induction n with
  | zero =>
    intro i o hi ho hr j hj
    have hlt : i < ops.size := (Array.getElem?_eq_some_iff.1 ho).1
    rw [masks_get ho] at hj
    unfold maskOf at hj
    rw [← Array.foldl_toList] at hj
    rcases maskOf_bit _ _ hj with h | ⟨ed, he, hb, h⟩
    · simp at h
    · have := topo_spec ht ho (Array.mem_toList_iff.1 he) hb
      omega
  | succ n ih =>
    intro i o hi ho hr j hj
    have hlt : i < ops.size := (Array.getElem?_eq_some_iff.1 ho).1
    rw [masks_get ho] at hj
    unfold maskOf at hj
    rw [← Array.foldl_toList] at hj
    rcases maskOf_bit _ _ hj with h | ⟨ed, he, hb, h⟩
    · simp at h
    · have hed := topo_spec ht ho (Array.mem_toList_iff.1 he) hb
      have hl := hr ed (Array.mem_toList_iff.1 he) hb
      rcases h with rfl | h
      · exact hl
      · rw [masks_take hed (by omega)] at h
        have : ∃ o', ops[ed.on]? = some o' := ⟨ops[ed.on], Array.getElem?_eq_getElem (by omega)⟩
        obtain ⟨o', ho'⟩ := this
        exact ih ed.on o' (by omega) ho' (hc _ _ ho' hl) j h
end
end Go.Proofs.Ytgibpomhiilehaa.Dv
