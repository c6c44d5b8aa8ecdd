/- slices.Collect of slices.Values of timers, by reference. -/
import Derived.Test.YtfclelafcdcilaaR2
import Derived.Test.YtfclelafcdcilaaS1
import Derived.Test.YtfclelafcdcilaaG1
set_option linter.unusedVariables false
set_option linter.unusedSimpArgs false
namespace Go.Proofs.Ytfclelafcdcilaa.Dv
open Go Go.Proofs
section
variable {Γ : Ctx} {σ : Store} {w w' : World}
/-- A later world in which all that was is as it was, with one new row. -/
theorem SR.newAt (hs : SR Γ σ w) (hold : ∀ b, b < w.heap.size → w'.heap[b]? = w.heap[b]?) (hos : w'.os = w.os) (htp : w'.tape = w.tape) (hout : w'.output = w.output) (hsz : w.heap.size ≤ w'.heap.size) (hdr : w.drawn ≤ w'.drawn) {g : Nat} (hg : w.heap.size ≤ g) {c : Array Value} {e : TypeId} (hnew : w'.heap[g]? = some (.cells c e (0, 0)))
    {esz : Nat} {xs : List D} {us rest : List Value} (hc : c.toList = us ++ rest) (hr : RE Γ w esz xs us rest) (hz : 0 < esz) :
    ∃ Γ', SR Γ' (σ ++ [some (.row .own esz xs)]) w' ∧ Reach Γ σ w Γ' (σ ++ [some (.row .own esz xs)]) w' ∧ Γ'.A σ.length ∧ Γ'.ρ σ.length = g ∧ Γ'.ez σ.length = esz ∧ Γ'.bs σ.length = c.size := by
  let Γ' : Ctx := { C := Γ.C, A := fun id => Γ.A id ∨ id = σ.length, ρ := fun id => if id = σ.length then g else Γ.ρ id, ez := fun id => if id = σ.length then esz else Γ.ez id, bs := fun id => if id = σ.length then c.size else Γ.bs id }
  have hne : ∀ id, Γ.A id → id ≠ σ.length := fun id h e => by have := hs.below id h; omega
  have hag : Agree Γ Γ' := ⟨fun _ h => h, fun _ h => .inl h, fun id h => if_neg (hne id h), fun id h => if_neg (hne id h), fun id h => if_neg (hne id h)⟩
  have hsame : SameC Γ w w' := fun b hb => hold b (hs.old b hb)
  have hlt : ∀ k o, σ.obj k = some o → Γ.ρ k < w.heap.size := fun k o hk => by
    cases o with
    | row st ez ys =>
      obtain ⟨⟨_, _, d, t, _, _, h3, _⟩, _⟩ := hs.row _ _ _ _ hk
      exact (Array.getElem?_eq_some_iff.1 h3).1
    | map st kvs => exact absurd hk (hs.nomap _ _ _)
  have hρ : Γ'.ρ σ.length = g := if_pos rfl
  have hobj : ∀ k o, Store.obj (σ ++ [some (.row .own esz xs)]) k = some o → (k = σ.length ∧ o = .row .own esz xs) ∨ σ.obj k = some o := fun k o hk => by
    by_cases h : k = σ.length
    · subst h; rw [obj_app_eq] at hk; injection hk with hk; exact .inl ⟨rfl, hk.symm⟩
    · by_cases h2 : k < σ.length
      · rw [obj_app_lt h2] at hk; exact .inr hk
      · have := obj_lt hk; rw [List.length_append] at this; simp at this; omega
  refine ⟨Γ', ⟨fun k st ez ys hk => ?_, fun k st kvs hk => ?_, fun k k' o o' hk hk' hkk => ?_, fun k o hk => ?_, fun b hb => Nat.lt_of_lt_of_le (hs.old b hb) hsz, fun k hk => ?_⟩,
    ⟨⟨hag, fun b hb => .inl hb, fun b hb => ?_, fun b hb _ => hold b hb, hos, htp, hout, hsz, hdr⟩, by rw [List.length_append]; omega, fun id hid => ?_⟩, .inr rfl, hρ, if_pos rfl, if_pos rfl⟩
  · rcases hobj _ _ hk with ⟨rfl, ho⟩ | hk
    · injection ho with h1 h2 h3
      subst h1 h2 h3
      refine ⟨⟨(if_pos rfl).symm, hz, c, e, us, rest, by rw [hρ]; exact hnew, (if_pos rfl).symm, hc, hr.mono hag hsame⟩, fun _ hC => ?_, fun h => by cases h⟩
      rw [hρ] at hC
      exact absurd (hs.old _ hC) (by omega)
    · obtain ⟨⟨h1, h2, d, t, vs, rs, h3, h4, h5, h6⟩, h7, h8⟩ := hs.row _ _ _ _ hk
      have hA' := hs.live _ _ hk
      refine ⟨⟨by rw [hag.ez _ hA']; exact h1, h2, d, t, vs, rs, by rw [hag.ρ _ hA', hold _ (hlt _ _ hk)]; exact h3, by rw [hag.bs _ hA']; exact h4, h5, h6.mono hag hsame⟩, ?_, ?_⟩
      · rw [hag.ρ _ hA']; exact h7
      · rw [hag.ρ _ hA']; exact h8
  · rcases hobj _ _ hk with ⟨_, ho⟩ | hk
    · cases ho
    · exact hs.nomap _ _ _ hk
  · rcases hobj _ _ hk with ⟨rfl, _⟩ | hk <;> rcases hobj _ _ hk' with ⟨rfl, _⟩ | hk'
    · rfl
    · rw [hρ, hag.ρ _ (hs.live _ _ hk')] at hkk
      have := hlt _ _ hk'
      omega
    · rw [hρ, hag.ρ _ (hs.live _ _ hk)] at hkk
      have := hlt _ _ hk
      omega
    · rw [hag.ρ _ (hs.live _ _ hk), hag.ρ _ (hs.live _ _ hk')] at hkk
      exact hs.inj _ _ _ _ hk hk' hkk
  · rcases hobj _ _ hk with ⟨rfl, _⟩ | hk
    · exact .inr rfl
    · exact .inl (hs.live _ _ hk)
  · rw [List.length_append]
    rcases hk with hk | hk
    · have := hs.below k hk; omega
    · rw [hk]; simp
  · obtain ⟨id, ez, ys, ho, hb⟩ := hb
    rcases hobj _ _ ho with ⟨rfl, _⟩ | ho
    · right; rw [← hb, hρ]; exact hg
    · left; exact ⟨id, ez, ys, ho, by rw [← hb, hag.ρ _ (hs.live _ _ ho)]⟩
  · rcases hid with h | h
    · exact .inl h
    · right; omega
/-- A later world in which all that was is as it was. -/
theorem SR.later (hs : SR Γ σ w) (hold : ∀ b, b < w.heap.size → w'.heap[b]? = w.heap[b]?) (hos : w'.os = w.os) (htp : w'.tape = w.tape) (hout : w'.output = w.output) (hsz : w.heap.size ≤ w'.heap.size) (hdr : w.drawn ≤ w'.drawn) : SR Γ σ w' ∧ Reach Γ σ w Γ σ w' := by
  have hsame : SameC Γ w w' := fun b hb => hold b (hs.old b hb)
  refine ⟨⟨fun k st ez ys hk => ?_, hs.nomap, hs.inj, hs.live, fun b hb => Nat.lt_of_lt_of_le (hs.old b hb) hsz, hs.below⟩, ⟨⟨.refl _, fun b hb => .inl hb, fun b hb => .inl hb, fun b hb _ => hold b hb, hos, htp, hout, hsz, hdr⟩, Nat.le_refl _, fun _ h => .inl h⟩⟩
  obtain ⟨⟨h1, h2, d, t, vs, rs, h3, h4, h5, h6⟩, h7⟩ := hs.row _ _ _ _ hk
  exact ⟨⟨h1, h2, d, t, vs, rs, by rw [hold _ (Array.getElem?_eq_some_iff.1 h3).1]; exact h3, h4, h5, h6.mono (.refl _) hsame⟩, h7⟩
end
abbrev Tm := Int × Int × Int
def tmD (x : Tm) : D := .agg [.int .i64 x.1, .int .i64 x.2.1, .int .i64 x.2.2]
noncomputable def elemT : ElemK Tm where
  enc := tmD
  cells := Rf.tmC
  k := 3
  hk := by decide
  len := fun _ => rfl
  one := fun x v hv => by simp [Rf.tmC] at hv; rcases hv with rfl | rfl | rfl <;> rfl
  toR := fun Γ w x => R.cons (R1.int.2 rfl) (R.cons (R1.int.2 rfl) (R.cons (R1.int.2 rfl) (.nil _)))
  inv := fun Γ w x us h => by
    obtain ⟨v, vs, rfl, h1, h2⟩ := R.cons_inv (show R Γ w none [.int .i64 x.1, .int .i64 x.2.1, .int .i64 x.2.2] us from h)
    obtain ⟨v', vs', rfl, h3, h4⟩ := h2.cons_inv
    obtain ⟨v'', vs'', rfl, h5, h6⟩ := h4.cons_inv
    rw [h6.nil_inv, R1.int.1 h1, R1.int.1 h3, R1.int.1 h5]; rfl
  elem := fun _ => rfl
theorem flat_get : ∀ (l : List Tm) (j i : Nat) (v : Value), j < l.length → (Rf.tmC (l[j]?.getD (0, 0, 0)))[i]? = some v → (l.flatMap Rf.tmC)[j * 3 + i]? = some v
  | [], j, i, v, h, _ => by simp at h
  | x :: l, 0, i, v, h, hv => by
    rw [List.flatMap_cons, Nat.zero_mul, Nat.zero_add]
    have hv : (Rf.tmC x)[i]? = some v := hv
    have hi := (List.getElem?_eq_some_iff.1 hv).1
    rw [List.getElem?_append_left hi]; exact hv
  | x :: l, j + 1, i, v, h, hv => by
    rw [List.flatMap_cons, List.getElem?_append_right (by show (Rf.tmC x).length ≤ _; show 3 ≤ _; omega)]
    rw [show (j + 1) * 3 + i - (Rf.tmC x).length = j * 3 + i by show (j + 1) * 3 + i - 3 = _; omega]
    exact flat_get l j i v (by simpa using h) hv
theorem sl_tm {Γ : Ctx} {w : World} {f : Bool} {l : List Tm} {sv : Value} {σ : Store} (hs : SR Γ σ w) (h : R1 Γ w (.sl f (l.map tmD)) sv) : Rf.TmIn w.heap.size w sv l := by
  obtain ⟨a, c, sz, us, rfl, hp, hn, hc, hf, hr, hz, ha⟩ := R1.sl.1 h
  cases l with
  | nil => exact .inl ⟨a, c, rfl, rfl⟩
  | cons x l =>
    obtain ⟨b, o, rfl, hC, hcell⟩ := ha (by simp)
    have h3 : sz = 3 := by
      obtain ⟨vs, ws, _, _, hv, hvl, _⟩ := R.consE_inv (show R Γ w (some sz) (tmD x :: l.map tmD) us from hr)
      rw [← hvl, ← hv.length]; rfl
    subst h3
    have hus : us = (x :: l).flatMap Rf.tmC := elemT.row hr
    refine .inr ⟨b, o, c, by rw [List.length_map], fun _ => hs.old b hC, fun j hj i v hv => ?_⟩
    rw [Nat.add_assoc]
    exact hcell _ _ (by rw [hus]; exact flat_get _ j i v hj hv)
/-- What slices.Collect hands out. -/
theorem collect_any (l : List Tm) (hl : l.length ≤ 100000) (f : Bool) (st : St) (σ : Store) (b : Nat) (ho : σ.obj b = some (.row st 1 [.sl f (l.map tmD)])) :
    RefFun Try.prog 62 [.fn 64 [] [.ptr b 0 0]] σ (match l with | [] => .sl true [] | _ :: _ => .ms σ.length 0 l.length l.length false) (match l with | [] => σ | _ :: _ => σ ++ [some (.row .own 3 (l.map tmD))]) := by
  intro Γ w vargs hs hargs
  obtain ⟨u, vs, e1, hu, hr⟩ := hargs.cons_inv
  rw [hr.nil_inv] at e1
  obtain ⟨pv, rfl, hpv⟩ : ∃ pv, u = .func (.func 64) #[] #[pv] ∧ R1 Γ w (.ptr b 0 0) pv := by
    cases hu with
    | fn k1 k2 _ =>
      obtain ⟨pv, ws, rfl, hp, hn⟩ := k2.cons_inv
      rw [k1.nil_inv, hn.nil_inv]
      exact ⟨pv, rfl, hp⟩
    | atom h _ => exact h.elim
  obtain ⟨hA, rfl⟩ := R1.ptr.1 hpv
  have hva : vargs = #[.func (.func 64) #[] #[.pointer (some ⟨Γ.ρ b, 0, none⟩)]] := by
    cases vargs
    simp only [adr, Nat.zero_mul, Nat.add_zero] at e1
    simp_all
  subst hva
  obtain ⟨⟨hez, hz, c, e, us, rest, hh, hb, hc, hre⟩, _⟩ := hs.row _ _ _ _ ho
  obtain ⟨vs', ws, rfl, _, hcl, hvl, _⟩ := R.consE_inv hre.r
  obtain ⟨sv, vs2, rfl, hsv, hn2⟩ := R.cons_inv (show R Γ w none [.sl f (l.map tmD)] vs' from hcl)
  have hcell : w.cell? ⟨Γ.ρ b, 0, none⟩ = some sv := by
    unfold World.cell?
    rw [show w.heap[(⟨Γ.ρ b, 0, none⟩ : Addr).block]? = some (.cells c e (0, 0)) from hh]
    have : c.toList[0]? = some sv := by rw [hc]; rfl
    simpa using this
  have hcalls := callsIn_wide.1 (Rf.collect_in Fence.wide 5 trivial trivial trivial rfl (by omega) (Γ.ρ b) sv l hl w (Array.getElem?_eq_some_iff.1 hh).1 hcell (sl_tm hs hsv))
  refine .inl ⟨Enters.of Try.func62 (by kernel_rfl), Calls.mono hcalls ?_⟩
  rintro x w' ⟨v, rfl, hown, hone, hnil, hB, hd⟩
  have hold : ∀ b, b < w.heap.size → w'.heap[b]? = w.heap[b]? := hB.block
  cases l with
  | nil =>
    obtain ⟨k1, k2⟩ := hs.later hold hB.os hB.tape hB.output hB.size hd
    refine ⟨v, Γ, rfl, ?_, k1, k2⟩
    rw [hnil.2 rfl]
    exact R1.sl.2 ⟨none, 0, 1, [], rfl, rfl, Nat.le_refl _, Nat.zero_le _, fun _ => rfl, .nil _, by decide, fun h => absurd rfl h⟩
  | cons y l =>
    rcases hown with ⟨hlen, ⟨hv0, hk0⟩ | ⟨g, cap, cur, rfl, hbase, hh2, hk, hmx, hsz, htk⟩⟩
    · simp at hk0
    · obtain ⟨Γ', k1, k2, k3, k4, k5, k6⟩ := hs.newAt hold hB.os hB.tape hB.output hB.size hd hbase hh2 (esz := 3) (xs := (y :: l).map tmD) (us := (y :: l).flatMap Rf.tmC) (rest := cur.toList.drop ((y :: l).length * 3)) (by rw [show (y :: l).flatMap Rf.tmC = cur.toList.take ((y :: l).length * 3) from htk.symm]; exact (List.take_append_drop _ _).symm) ⟨elemT.toRow _, fun u hu => hone g _ cap cur _ rfl hh2 u (List.mem_of_mem_drop hu)⟩ (by decide)
      exact ⟨_, Γ', rfl, R1.ms.2 ⟨k3, _, _, rfl, hk, hk, (fun h => by cases h), .inr (by simp [adr, k4]), by rw [k5, k6, hsz]; simp, hmx⟩, k1, k2⟩
end Go.Proofs.Ytfclelafcdcilaa.Dv
