/- slices.SortFunc over rows of plain structs, by the library's contract (the kit's slices_SortFunc_eq) brought to calls by reference. -/
import Derived.Test.YtfclelafcdcilaaW
import Derived.Shelf.SlSortCmp.WholeK
set_option linter.unusedVariables false
set_option linter.unusedSectionVars false
set_option linter.unusedSimpArgs false
namespace Go.Proofs.Ytfclelafcdcilaa.Dv
open Go Go.Proofs Go.Sort Go.Shelf
/-- An element of plain cells. -/
structure ElemK (α : Type) where
  enc : α → D
  cells : α → List Value
  k : Nat
  hk : 0 < k
  len : ∀ x, (cells x).length = k
  one : ∀ x, ∀ v ∈ cells x, v.oneCell' = true
  toR : ∀ (Γ : Ctx) (w : World) (x : α), R Γ w none (enc x).cells (cells x)
  inv : ∀ (Γ : Ctx) (w : World) (x : α) (us : List Value), R Γ w none (enc x).cells us → us = cells x
  elem : ∀ x, (enc x).elem = true
section
variable {α : Type} [Inhabited α] (E : ElemK α) {Γ : Ctx} {w : World}
theorem ElemK.row : ∀ {l : List α} {us : List Value}, R Γ w (some E.k) (l.map E.enc) us → us = l.flatMap E.cells
  | [], us, h => by rw [h.nil_inv]; rfl
  | x :: l, us, h => by
    rw [List.map_cons] at h
    generalize hm : (some E.k : Option Nat) = m at h
    generalize hd : E.enc x :: List.map E.enc l = ds at h
    cases h with
    | elem hx h1 hl t =>
      injection hd with e1 e2
      subst e1 e2
      injection hm with hm
      subst hm
      rw [List.flatMap_cons, E.inv _ _ _ _ h1, ElemK.row t]
    | nil => cases hd
    | _ => cases hm
theorem ElemK.toRow : ∀ (l : List α), R Γ w (some E.k) (l.map E.enc) (l.flatMap E.cells)
  | [] => .nil _
  | x :: l => by
    rw [List.map_cons, List.flatMap_cons]
    exact .elem (E.elem x) (E.toR _ _ x) (E.len x) (ElemK.toRow l)
theorem ElemK.flat_len (l : List α) : (l.flatMap E.cells).length = l.length * E.k := by
  induction l with
  | nil => simp
  | cons x l ih => rw [List.flatMap_cons, List.length_append, ih, E.len, List.length_cons, Nat.succ_mul]; omega
theorem ElemK.flat_get : ∀ (l : List α) (t : Nat), t < l.length * E.k → (l.flatMap E.cells)[t]? = some ((E.cells l.toArray[t / E.k]!)[t % E.k]!)
  | [], t, h => by simp at h
  | x :: l, t, h => by
    rw [List.flatMap_cons]
    have hk := E.hk
    have hl := E.len x
    by_cases ht : t < E.k
    · rw [List.getElem?_append_left (by omega), Nat.div_eq_of_lt ht, Nat.mod_eq_of_lt ht]
      have : (x :: l).toArray[0]! = x := by simp
      rw [this, List.getElem?_eq_getElem (by omega), getElem!_pos _ _ (by omega)]
    · obtain ⟨s, rfl⟩ : ∃ s, t = s + E.k := ⟨t - E.k, by omega⟩
      rw [List.getElem?_append_right (by omega), hl, Nat.add_sub_cancel, Nat.add_div_right _ hk, Nat.add_mod_right]
      have hs : s < l.length * E.k := by rw [List.length_cons, Nat.succ_mul] at h; omega
      rw [ElemK.flat_get l s hs]
      have : (x :: l).toArray[(s / E.k).succ]! = l.toArray[s / E.k]! := by simp
      rw [this]
theorem ElemK.flat_eq (l : List α) : (flatK E.cells E.k l.toArray).toList = l.flatMap E.cells := by
  apply List.ext_getElem?
  intro t
  have hs : (flatK E.cells E.k l.toArray).size = l.length * E.k := by simp
  by_cases ht : t < l.length * E.k
  · rw [E.flat_get l t ht, Array.getElem?_toList, getElem?_pos _ _ (by rw [hs]; exact ht), ← get_flatK E.cells E.k l.toArray t (by simpa using ht), getElem!_pos _ _ (by rw [hs]; exact ht)]
  · rw [List.getElem?_eq_none (by rw [Array.length_toList, hs]; omega), List.getElem?_eq_none (by rw [E.flat_len]; omega)]

/-- The row's block, as the kit sees it. -/
theorem ElemK.holds {b : Nat} {c : Array Value} {e : TypeId} {rest : List Value} {l : List α} (h : w.heap[b]? = some (.cells c e (0, 0))) (hc : c.toList = l.flatMap E.cells ++ rest) : HoldsK E.cells E.k w b 0 l.toArray := by
  intro j hj
  have hj' : j < l.length * E.k := by simpa using hj
  have hs : (flatK E.cells E.k l.toArray).size = l.length * E.k := by simp
  have hg : c[j]? = some (flatK E.cells E.k l.toArray)[j]! := by
    rw [← Array.getElem?_toList, hc, List.getElem?_append_left (by rw [E.flat_len]; exact hj'), ← E.flat_eq, Array.getElem?_toList, getElem?_pos _ _ (by rw [hs]; exact hj'), getElem!_pos _ _ (by rw [hs]; exact hj')]
  constructor
  · unfold World.cell?
    rw [h]
    simp only [Option.isSome_none, Bool.false_eq_true, if_false, Nat.zero_add]
    exact hg
  · unfold World.frozen?
    rw [h]
    simp
theorem sortWorldK_heap {b m k : Nat} {cells : α → List Value} {d : Array α} {os : Array Obj} : (sortWorldK cells k w b 0 m d os).heap = w.heap.modify b (onCells (putCells id 0 (flatK cells k d))) ++ os := rfl
/-- What stands there behind the sort. -/
theorem ElemK.put {b m : Nat} {c : Array Value} {e : TypeId} {rest : List Value} {l l' : List α} {os : Array Obj} (h : w.heap[b]? = some (.cells c e (0, 0))) (hc : c.toList = l.flatMap E.cells ++ rest) (hl : l'.length = l.length) :
    ∃ c', (sortWorldK E.cells E.k w b 0 m l'.toArray os).heap[b]? = some (.cells c' e (0, 0)) ∧ c'.size = c.size ∧ c'.toList = l'.flatMap E.cells ++ rest := by
  have hlt := (Array.getElem?_eq_some_iff.1 h).1
  refine ⟨putCells id 0 (flatK E.cells E.k l'.toArray) c, ?_, by simp [putCells], ?_⟩
  · rw [sortWorldK_heap, Array.getElem?_append_left (by simpa using hlt), Array.getElem?_modify, if_pos rfl, h]
    rfl
  · have hsz : (flatK E.cells E.k l'.toArray).size = l.length * E.k := by simp [hl]
    have hlen : (l.flatMap E.cells).length = l.length * E.k := E.flat_len l
    have hlen' : (l'.flatMap E.cells).length = l.length * E.k := by rw [E.flat_len, hl]
    apply List.ext_getElem?
    intro j
    unfold putCells
    rw [Array.getElem?_toList, Array.getElem?_mapIdx, ← Array.getElem?_toList, hc]
    by_cases hj : j < l.length * E.k
    · rw [List.getElem?_append_left (by omega), List.getElem?_append_left (by omega), List.getElem?_eq_getElem (by omega), Option.map_some, if_pos ⟨by omega, by omega⟩, Nat.sub_zero, ← E.flat_eq l', Array.getElem?_toList, getElem?_pos _ _ (by omega), getElem!_pos _ _ (by omega)]
      rfl
    · rw [List.getElem?_append_right (by omega), List.getElem?_append_right (by omega), hlen, hlen']
      cases hr : rest[j - l.length * E.k]? with
      | none => rfl
      | some v => rw [Option.map_some, if_neg (by omega)]
theorem sortWorldK_other {b m k : Nat} {cells : α → List Value} {d : Array α} {os : Array Obj} {j : Nat} (hj : j < w.heap.size) (hne : j ≠ b) : (sortWorldK cells k w b 0 m d os).heap[j]? = w.heap[j]? := by
  rw [sortWorldK_heap, Array.getElem?_append_left (by simpa using hj), Array.getElem?_modify, if_neg (fun h => hne h.symm)]
theorem sortWorldK_size {b m k : Nat} {cells : α → List Value} {d : Array α} {os : Array Obj} : w.heap.size ≤ (sortWorldK cells k w b 0 m d os).heap.size := by
  rw [sortWorldK_heap]
  simp
/-- What the library's sort lays. -/
def srtV (cf : α → α → Int) (l : List α) : List α := (pdq (ltOf cf) l.toArray 0 l.toArray.size (Lib.bitLen l.toArray.size) true true).toList
theorem srtV_len {cf : α → α → Int} (hO : SWO (ltOf cf)) (l : List α) : (srtV cf l).length = l.length := by
  have := (pdq_sorts (ltOf cf) hO l.toArray 0 l.toArray.size (Lib.bitLen l.toArray.size) true true (Nat.zero_le _) (Nat.le_refl _) (Or.inl rfl)).1.1
  simpa [srtV] using this
theorem srtV_perm {cf : α → α → Int} (hO : SWO (ltOf cf)) (l : List α) : (srtV cf l).Perm l := by
  obtain ⟨h1, _, h3⟩ := (pdq_sorts (ltOf cf) hO l.toArray 0 l.toArray.size (Lib.bitLen l.toArray.size) true true (Nat.zero_le _) (Nat.le_refl _) (Or.inl rfl)).1
  have e1 : ∀ d : Array α, d.size = l.toArray.size → (d.extract 0 l.toArray.size).toList = d.toList := fun d hd => by rw [← hd]; simp
  rw [e1 _ h1, e1 _ rfl] at h3
  exact h3
theorem srtV_sorted {cf : α → α → Int} (hO : SWO (ltOf cf)) (l : List α) : (srtV cf l).Pairwise fun x y => ltOf cf y x = false := by
  have hs := (pdq_sorts (ltOf cf) hO l.toArray 0 l.toArray.size (Lib.bitLen l.toArray.size) true true (Nat.zero_le _) (Nat.le_refl _) (Or.inl rfl)).2
  have hl := srtV_len hO l
  rw [List.pairwise_iff_getElem]
  intro i j hi hj hij
  have := hs i j (Nat.zero_le _) hij (by rw [hl] at hj; simpa using hj)
  unfold srtV at hi hj ⊢
  generalize pdq (ltOf cf) l.toArray 0 l.toArray.size (Lib.bitLen l.toArray.size) true true = A at *
  rw [Array.length_toList] at hi hj
  rw [getElem!_pos A j hj, getElem!_pos A i hi] at this
  simpa using this
/-- The library's sort, as a call by reference. -/
theorem sort_ref {P : Program} {ρ : Ren} (L : SlLaysF0.n6 P ρ) (aE : ∀ w, (isAgg (ρ.t 24)).run P w = .ok true w) (zE : ∀ w, (Go.sizeOf (ρ.t 24)).run P w = .ok E.k w) (cf : α → α → Int) (hO : SWO (ltOf cf)) (g : Nat)
    (eg : ∀ args w, (callFunc g args).run P w = .ok (.enter g args) w)
    (hcmp : ∀ (W : World) (x y : α), Calls P g #[.agg (E.cells x).toArray, .agg (E.cells y).toArray] W fun e w' => e = .returned (.int .i64 (cf x y)) ∧ ∃ q os', w' = grow (W.drewN q) os')
    (l : List α) (hl : l ≠ []) (hm : l.length < 4611686018427387904) (cap : Nat) (ex : Bool) :
    RefFun P (ρ.f 6) [.ms 0 0 l.length cap ex, .fn g [] []] [some (.row .own E.k (l.map E.enc))] (.tup []) [some (.row .own E.k ((srtV cf l).map E.enc))] := by
  intro Γ w vargs hs hargs
  obtain ⟨u, vs, e1, hu, hr⟩ := hargs.cons_inv
  obtain ⟨v, vs', rfl, hv, hr'⟩ := hr.cons_inv
  rw [hr'.nil_inv] at e1
  obtain ⟨hA, a, c', rfl, h1, h2, h3, h4, h5, h6⟩ := R1.ms.1 hu
  have hfn : v = .func (.func g) #[] #[] := by
    cases hv with
    | fn k1 k2 _ => rw [k1.nil_inv, k2.nil_inv]
    | atom h _ => exact h.elim
  subst hfn
  have hva : vargs = #[.slice a l.length c', .func (.func g) #[] #[]] := by cases vargs; simp_all
  have hpos : 0 < l.length := List.length_pos_iff.2 hl
  have ha : a = some ⟨Γ.ρ 0, 0, none⟩ := by
    rcases h4 with h4 | h4
    · omega
    · rw [h4]; simp [adr]
  subst ha hva
  obtain ⟨⟨hez, hz, c, e, us, rest, hh, hb, hc, hre⟩, hnC, _⟩ := hs.row 0 .own E.k _ rfl
  have hus := E.row hre.r
  subst hus
  have hblk := (Array.getElem?_eq_some_iff.1 hh).1
  have hent : Enters P (ρ.f 6) := by
    obtain ⟨nm, hn, hf⟩ := L.f6
    exact ⟨_, hf, by simpa using hn, rfl⟩
  have hk := AnyQ.slices_SortFunc_eq L E.k aE zE E.cells E.len E.one cf hO g #[] (Γ.ρ 0) 0 c' l.toArray w eg (fun m os dk _ x y => hcmp _ x y) (E.holds hh hc) hblk (by simpa using hm)
  have hlen := srtV_len hO l
  refine .inl ⟨hent, ?_⟩
  refine Calls.mono (by simpa using hk) ?_
  rintro x w' ⟨rfl, m, os, hw⟩
  have hw' : w' = sortWorldK E.cells E.k w (Γ.ρ 0) 0 m (srtV cf l).toArray os := by rw [hw]; simp [srtV]
  subst hw'
  obtain ⟨c1, k1, k2, k3⟩ := E.put (w := w) (m := m) (os := os) hh hc hlen
  have hown : Own Γ [some (Ob.row .own E.k (l.map E.enc))] (Γ.ρ 0) := ⟨0, E.k, _, rfl, rfl⟩
  have hob : ∀ {xs : List D} {k : Nat} {o : Ob}, Store.obj [some (Ob.row .own E.k xs)] k = some o → k = 0 ∧ o = .row .own E.k xs := by
    intro xs k o ho
    match k, ho with
    | 0, ho => injection ho with ho; exact ⟨rfl, ho.symm⟩
  refine ⟨.tuple #[], Γ, rfl, R.tup (.nil _) (.nil _), ⟨fun id st esz xs ho => ?_, fun id st kvs ho => ?_, fun id id' o o' ho ho' _ => ?_, fun id o ho => ?_, fun b hb => Nat.lt_of_lt_of_le (hs.old b hb) sortWorldK_size, fun id hid => hs.below id hid⟩,
    ⟨⟨.refl _, fun b hb => .inl hb, fun b hb => .inl ?_, fun b hb hn => sortWorldK_other hb (fun e => hn (e ▸ hown)), rfl, rfl, rfl, sortWorldK_size, Nat.le_add_right _ _⟩, Nat.le_refl _, fun _ h => .inl h⟩⟩
  · obtain ⟨hk0, ho2⟩ := hob ho
    subst hk0
    injection ho2 with g1 g2 g3
    subst g1 g2 g3
    exact ⟨⟨hez, hz, c1, e, _, rest, k1, k2.trans hb, k3, ⟨E.toRow _, hre.one⟩⟩, hnC, fun h => by cases h⟩
  · obtain ⟨_, ho2⟩ := hob ho; cases ho2
  · rw [(hob ho).1, (hob ho').1]
  · rw [(hob ho).1]; exact hA
  · obtain ⟨id, esz, xs, ho, hb2⟩ := hb
    rw [← hb2, (hob ho).1]; exact hown
/-- A comparison known as a function of data, as the sort asks for it. -/
theorem cmp_calls {P : Program} {g : FuncId} (hg : Enters P g) (E : ElemK α) (cf : α → α → Int) (h : ∀ x y, DataFun P g [E.enc x, E.enc y] (.int .i64 (cf x y)))
    (hv : ∀ (Γ : Ctx) (W : World) (x : α), R1 Γ W (E.enc x) (.agg (E.cells x).toArray)) (W : World) (x y : α) :
    Calls P g #[.agg (E.cells x).toArray, .agg (E.cells y).toArray] W fun e w' => e = .returned (.int .i64 (cf x y)) ∧ ∃ q os', w' = grow (W.drewN q) os' := by
  have hs : SR (Old W) [] W := ⟨fun id st esz xs h => by simp [Store.obj] at h, fun id st kvs h => by simp [Store.obj] at h, fun id id' o o' h => by simp [Store.obj] at h, fun id o h => by simp [Store.obj] at h, fun b hb => hb, fun id h => h.elim⟩
  refine (((h x y).2 (Old W) W _ hs (R.cons (hv _ _ x) (hv _ _ y))).calls hg).mono ?_
  rintro e w' ⟨v, C', rfl, h1, h2⟩
  have h3 := R1.int.1 (h1 { Old W with C := C' } (fun b hb => hb))
  refine ⟨by rw [h3], w'.drawn - W.drawn, w'.heap.extract W.heap.size w'.heap.size, ?_⟩
  have hh : w'.heap = W.heap ++ w'.heap.extract W.heap.size w'.heap.size := by
    apply Array.ext_getElem?
    intro j
    have hsz := h2.size
    by_cases hj : j < W.heap.size
    · rw [Array.getElem?_append_left hj, h2.kept j hj]
    · rw [Array.getElem?_append_right (by omega), Array.getElem?_extract]
      by_cases hj2 : j < w'.heap.size
      · rw [if_pos (by omega)]; congr 1; omega
      · rw [if_neg (by omega), getElem?_neg w'.heap j hj2]
  have hd := h2.drawn
  cases w'
  cases W
  simp only [grow, World.drewN] at *
  obtain ⟨_, _, _, g1, g2, g3, _, _⟩ := h2
  simp only at g1 g2 g3 hh hd
  subst g1 g2 g3
  congr 1
  omega
end
end Go.Proofs.Ytfclelafcdcilaa.Dv
