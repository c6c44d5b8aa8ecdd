/- Arguments, and that each of their slices and texts is no larger than a process bears. -/
import Derived.Test.YtgibpomhiilehaaDvTop
import Derived.SizedLaws
set_option linter.unusedVariables false
set_option linter.unusedSimpArgs false
namespace Go.Proofs.Ytgibpomhiilehaa.Dv
open Go
def lkB : LK → Nat
  | .bool => 1
  | .int .i64 | .int .u64 => 8
  | .int _ => 1
  | .str => 16
  | .sl .. => 24
def lksB (ks : List LK) : Nat := (ks.map lkB).sum
inductive OkL (B : Nat) : List LK → List D → Prop
  | nil : OkL B [] []
  | bool {b : Bool} {ks : List LK} {xs : List D} (t : OkL B ks xs) : OkL B (.bool :: ks) (.bool b :: xs)
  | int {k : IntKind} {n : Int} {ks : List LK} {xs : List D} (h : (Lit.int k n).wf = true) (t : OkL B ks xs) : OkL B (.int k :: ks) (.int k n :: xs)
  | str {s : ByteArray} {ks : List LK} {xs : List D} (h : s.size ≤ B) (t : OkL B ks xs) : OkL B (.str :: ks) (.str s :: xs)
  | sl {full agg : Bool} {eks : List LK} {ys : List D} {ks : List LK} {xs : List D} (hl : ys.length * lksB eks ≤ B) (h0 : ys.length ≤ maxLen) (h1 : ∀ y ∈ ys, y.isAgg = agg) (h2 : ∀ y ∈ ys, OkL B eks y.cells) (t : OkL B ks xs) : OkL B (.sl agg eks :: ks) (.sl full ys :: xs)
theorem OkL.ok {B : Nat} (hB : B ≤ maxLen) {ks : List LK} {xs : List D} (h : OkL B ks xs) : Ok ks xs := by
  induction h with
  | nil => exact .nil
  | bool _ ih => exact .bool ih
  | int h _ ih => exact .int h ih
  | str h _ ih => exact .str (Nat.le_trans h hB) ih
  | sl hl h0 h1 h2 t ih2 ih => exact .sl h0 h1 ih2 ih
theorem OkL.pleaf {B : Nat} {ks : List LK} {xs : List D} (h : OkL B ks xs) : xs.all D.pleaf = true := by
  induction h with
  | nil => rfl
  | bool _ ih => simpa [D.pleaf] using ih
  | int _ _ ih => simpa [D.pleaf] using ih
  | str _ _ ih => simpa [D.pleaf] using ih
  | sl _ _ _ _ _ _ ih => simpa [D.pleaf] using ih
theorem OkL.length {B : Nat} {ks : List LK} {xs : List D} (h : OkL B ks xs) : xs.length = ks.length := by
  induction h <;> simp_all
theorem OkL.append {B : Nat} {ks ls : List LK} {xs ys : List D} (h : OkL B ks xs) (k : OkL B ls ys) : OkL B (ks ++ ls) (xs ++ ys) := by
  induction h with
  | nil => exact k
  | bool _ ih => exact .bool ih
  | int h _ ih => exact .int h ih
  | str h _ ih => exact .str h ih
  | sl a b c d _ _ ih => exact .sl a b c d ih
/-- Each slice's elements take as many bytes as their cells ask for. -/
def bytesOk (P : Program) : Nat → TypeId → Bool
  | 0, _ => false
  | m + 1, t => match P.underlying t with
    | some (.slice e) => (match kinds P m e with | some ks => decide (lksB ks ≤ P.bytesOf e) | none => false) && bytesOk P m e
    | some (.struct fs) => fs.toList.all fun f => bytesOk P m f.type
    | _ => true
theorem weights_all {H : Type} {P : Program} {e : TypeId} {d : DataW H} : ∀ {l : List (DataW H)}, d ∈ l → ∀ n ∈ d.weights P e, n ∈ DataW.weightsAll P e l
  | x :: l, h, n, hn => by
    simp only [DataW.weightsAll, List.mem_append]
    rcases List.mem_cons.1 h with rfl | h
    · exact .inl hn
    · exact .inr (weights_all h n hn)
def Fits {H : Type} (P : Program) (B : Nat) (t : TypeId) (d : DataW H) : Prop := ∀ n ∈ d.weights P t, n ≤ B
section
variable {H : Type} {enc : TypeId × Value → H} {P : Program} {w : World} {base : Nat} {spare : Nat → Bool} {held : Bool} {B : Nat}
theorem fields_okL {fuel m : Nat} (ih : ∀ (t : TypeId) (cs : List Value) (d : DataW H) (ps : List MemPlace), DataW.trod enc P w base spare held fuel t cs = some (d, ps) → ∀ ks, kinds P m t = some ks → bytesOk P m t = true → Fits P B t d → ∃ xs, R (Old w) w none xs cs ∧ OkL B ks xs) {cs : List Value} {n : Nat} (hn : cs.length = n) :
    ∀ (fs : List Field) (kss : List (List LK)) (o : Nat), fs.mapM (fun f => kinds P m f.type) = some kss → laid P o fs kss n = true →
      (∀ f ∈ fs, bytesOk P m f.type = true ∧ ∃ x, DataW.trod enc P w base spare held fuel f.type ((cs.drop f.offset).take (P.cellsOf f.type)) = some x ∧ Fits P B f.type x.1) → ∃ xs, R (Old w) w none xs (cs.drop o) ∧ OkL B kss.flatten xs
  | [], kss, o, h1, h2, h3 => by
    simp only [List.mapM_nil] at h1
    injection h1 with h1
    subst h1
    simp only [laid, beq_iff_eq] at h2
    exact ⟨[], by rw [List.drop_of_length_le (by omega)]; exact .nil _, .nil⟩
  | f :: fs, kss, o, h1, h2, h3 => by
    obtain ⟨ks, kss', e1, e2, rfl⟩ := mapM_cons_inv h1
    obtain ⟨hby, ⟨d, ps⟩, e3, hft⟩ := h3 f (List.mem_cons_self ..)
    simp only [laid, Bool.and_eq_true, beq_iff_eq] at h2
    obtain ⟨⟨h4, h5⟩, h6⟩ := h2
    obtain ⟨xs, k1, k2⟩ := ih _ _ _ _ e3 _ e1 hby hft
    obtain ⟨ys, l1, l2⟩ := fields_okL ih hn fs kss' _ e2 h6 fun g hg => h3 g (List.mem_cons_of_mem _ hg)
    refine ⟨xs ++ ys, ?_, by rw [List.flatten_cons]; exact k2.append l2⟩
    rw [h4, ← h5] at k1
    have : cs.drop o = (cs.drop o).take ks.length ++ cs.drop (o + ks.length) := by rw [← List.drop_drop, List.take_append_drop]
    rw [this]
    exact k1.append l1
theorem elems_okL {fuel m : Nat} {e : TypeId} {ks : List LK} (hks : kinds P m e = some ks) (hby : bytesOk P m e = true) (hk1 : isAggT P e = false → ks.length = 1)
    (ih : ∀ (t : TypeId) (cs : List Value) (d : DataW H) (ps : List MemPlace), DataW.trod enc P w base spare held fuel t cs = some (d, ps) → ∀ ks, kinds P m t = some ks → bytesOk P m t = true → Fits P B t d → ∃ xs, R (Old w) w none xs cs ∧ OkL B ks xs) {b o : Nat} :
    ∀ (n s : Nat), (∀ i, s ≤ i → i < s + n → ∃ r, (w.cells? base ((⟨b, o, none⟩ : Addr).add (i * P.cellsOf e)) (P.cellsOf e)).bind (DataW.trod enc P w base spare held fuel e) = some r ∧ Fits P B e r.1) →
      ∃ ys us, R (Old w) w (some (P.cellsOf e)) ys us ∧ ys.length = n ∧ (∀ y ∈ ys, y.isAgg = isAggT P e) ∧ (∀ y ∈ ys, OkL B ks y.cells) ∧ ∀ k u, us[k]? = some u → w.cell? ⟨b, o + s * P.cellsOf e + k, none⟩ = some u
  | 0, s, h => ⟨[], [], .nil _, rfl, by simp, by simp, by simp⟩
  | n + 1, s, h => by
    obtain ⟨⟨d, ps⟩, e1, hft⟩ := h s (Nat.le_refl _) (by omega)
    obtain ⟨ys, us, k1, k2, k3, k4, k5⟩ := elems_okL hks hby hk1 ih n (s + 1) fun i h1 h2 => h i (by omega) (by omega)
    obtain ⟨cs, hc, hd⟩ := Option.bind_eq_some_iff.1 e1
    obtain ⟨xs, l1, l2⟩ := ih _ _ _ _ hd _ hks hby hft
    obtain ⟨c1, c2⟩ := cells_some hc
    have hpl := l2.pleaf
    have hcells : (vOf (isAggT P e) xs).cells = xs ∧ (vOf (isAggT P e) xs).isAgg = isAggT P e ∧ (vOf (isAggT P e) xs).elem = true := by
      unfold vOf
      cases ha : isAggT P e with
      | true =>
        simp only [if_true, D.cells, D.isAgg, D.elem, true_and]
        rw [List.all_eq_true] at hpl ⊢
        exact fun d hd => pleaf_leaf (hpl d hd)
      | false =>
        have hl : xs.length = 1 := by rw [l2.length]; exact hk1 ha
        obtain ⟨x, rfl⟩ := List.length_eq_one_iff.1 hl
        simp only [List.all_cons, List.all_nil, Bool.and_true] at hpl
        simp only [Bool.false_eq_true, if_false, List.headD_cons]
        cases x <;> first | (cases hpl; done) | exact ⟨rfl, rfl, rfl⟩
    refine ⟨vOf (isAggT P e) xs :: ys, cs ++ us, .elem hcells.2.2 (by rw [hcells.1]; exact l1) c1 k1, by simp [k2], ?_, ?_, ?_⟩
    · intro y hy
      rcases List.mem_cons.1 hy with rfl | hy
      · exact hcells.2.1
      · exact k3 y hy
    · intro y hy
      rcases List.mem_cons.1 hy with rfl | hy
      · rw [hcells.1]; exact l2
      · exact k4 y hy
    · intro k u hu
      rcases Nat.lt_or_ge k cs.length with hk | hk
      · rw [List.getElem?_append_left hk] at hu
        have := c2 k (by omega)
        rw [add_none, add_none] at this
        rw [this]; exact hu
      · rw [List.getElem?_append_right hk] at hu
        have := k5 _ _ hu
        rw [Nat.add_mul, Nat.one_mul] at this
        rw [← this]
        congr 2
        omega
theorem trod_okL : ∀ (fuel : Nat) (t : TypeId) (cs : List Value) (d : DataW H) (ps : List MemPlace), DataW.trod enc P w base spare held fuel t cs = some (d, ps) → ∀ m ks, kinds P m t = some ks → bytesOk P m t = true → Fits P B t d → ∃ xs, R (Old w) w none xs cs ∧ OkL B ks xs := by
  intro fuel
  induction fuel with
  | zero => intro t cs d ps h; simp [DataW.trod] at h
  | succ fuel ih =>
    intro t cs d ps h m ks hks hby hft
    cases m with
    | zero => simp [kinds] at hks
    | succ m =>
      unfold kinds at hks
      unfold bytesOk at hby
      cases hu : P.underlying t with
      | none => rw [hu] at hks; cases hks
      | some ty =>
        rw [hu] at hks hby
        cases ty with
        | bool =>
          simp only at hks
          injection hks with hks
          subst hks
          obtain ⟨b, rfl, _⟩ := DataW.trod_bool hu h
          exact ⟨[.bool b], R.cons (R1.bool.2 rfl) (.nil _), .bool .nil⟩
        | int k =>
          simp only at hks
          injection hks with hks
          subst hks
          obtain ⟨n, rfl, _, hw⟩ := DataW.trod_int hu h
          exact ⟨[.int k n], R.cons (R1.int.2 rfl) (.nil _), .int hw .nil⟩
        | string =>
          simp only at hks
          injection hks with hks
          subst hks
          obtain ⟨s, rfl, hx, hw⟩ := DataW.trod_string hu h
          injection hx with hx _
          subst hx
          exact ⟨[.str s], R.cons (R1.str.2 rfl) (.nil _), .str (by simpa using hft s.data.toList.length (by simp [DataW.weights])) .nil⟩
        | struct fs =>
          simp only at hks
          obtain ⟨kss, hk, hks⟩ := Option.bind_eq_some_iff.1 hks
          split at hks
          case isFalse => cases hks
          rename_i hl
          injection hks with hks
          subst hks
          obtain ⟨xs, n, hn, hxx, hlen, hsize, hall⟩ := DataW.trod_struct hu h
          injection hn with hn
          subst hn
          injection hxx with hxx _
          subst hxx
          have := fields_okL (fun t cs d ps h ks hk hb hf => ih t cs d ps h m ks hk hb hf) hlen fs.toList kss 0 hk hl (fun f hf => by
            obtain ⟨i, hi, hfi⟩ := List.getElem_of_mem hf
            have hfi' : fs[i]? = some f := by rw [← Array.getElem?_toList, List.getElem?_eq_getElem hi, hfi]
            have hx : i < xs.length := by
              have : i < fs.size := (Array.getElem?_eq_some_iff.1 hfi').1
              omega
            refine ⟨List.all_eq_true.1 hby f hf, xs[i], by rw [hall i f hfi', List.getElem?_eq_getElem hx], fun n hn => hft n ?_⟩
            simp only [DataW.weights, hu]
            exact DataW.weights_mem_each (j := i) (t := f.type) (d := xs[i].1) (by rw [List.getElem?_map, Array.getElem?_toList, hfi']; rfl) (by rw [List.getElem?_map, List.getElem?_eq_getElem hx]; rfl) n hn)
          simpa using this
        | slice e =>
          simp only at hks
          split at hks
          case isFalse => cases hks
          rename_i hz
          obtain ⟨eks, hek, rfl⟩ := Option.map_eq_some_iff.1 hks
          simp only [hek] at hby
          simp only [Bool.and_eq_true, decide_eq_true_eq] at hby
          obtain ⟨hbe, hby⟩ := hby
          rcases DataW.trod_slice hu h with ⟨rfl, _⟩ | ⟨a, len, cap, elems, rest, n, hn, rfl, hxx, _, hlc, hcm, hel, hall, _⟩
          · exact ⟨[.sl true []], R.cons (R1.sl.2 ⟨none, 0, 1, [], rfl, rfl, Nat.le_refl _, Nat.zero_le _, fun _ => rfl, .nil _, Nat.one_pos, fun h => absurd rfl h⟩) (.nil _), .sl (by simp) (by simp) (by simp) (by simp) .nil⟩
          · injection hn with hn
            subst hn
            injection hxx with hxx _
            subst hxx
            have hbig : (elems.length + rest.length) * P.bytesOf e ≤ B := by simpa using hft ((elems.length + rest.length) * P.bytesOf e) (by simp [DataW.weights, hu])
            have hln : len * lksB eks ≤ B := Nat.le_trans (Nat.mul_le_mul (by omega) hbe) hbig
            rcases Nat.eq_zero_or_pos len with h0 | h0
            · subst h0
              exact ⟨[.sl (decide (cap = 0)) []], R.cons (R1.sl.2 ⟨some a, cap, 1, [], rfl, rfl, Nat.zero_le _, hcm, fun h => by simpa using h, .nil _, Nat.one_pos, fun h => absurd rfl h⟩) (.nil _), .sl (by simp) (by simp) (by simp) (by simp) .nil⟩
            · have hsome : ∀ i, i < len → ∃ r, (w.cells? base (a.add (i * P.cellsOf e)) (P.cellsOf e)).bind (DataW.trod enc P w base spare held fuel e) = some r ∧ Fits P B e r.1 := fun i hi =>
                ⟨elems[i]'(by omega), by rw [hall i hi, List.getElem?_eq_getElem], fun n hn => hft n (by
                  simp only [DataW.weights, hu, List.mem_cons, List.mem_append]
                  exact .inr (.inl (weights_all (List.mem_map_of_mem (List.getElem_mem _)) n hn)))⟩
              obtain ⟨r0, hr0, _⟩ := hsome 0 h0
              obtain ⟨c0, hc0, hd0⟩ := Option.bind_eq_some_iff.1 hr0
              obtain ⟨g1, g2⟩ := cells_some hc0
              have hcell := g2 0 hz
              simp only [Nat.zero_mul, Addr.add, if_true] at hcell
              rw [List.getElem?_eq_getElem (by omega)] at hcell
              obtain ⟨b, o, spot⟩ := a
              have hspot : spot = none ∧ b < w.heap.size := by
                unfold World.cell? at hcell
                simp only at hcell
                split at hcell
                · rename_i hh
                  split at hcell
                  · cases hcell
                  · rename_i hsp
                    exact ⟨by simpa using hsp, (Array.getElem?_eq_some_iff.1 hh).1⟩
                · cases hcell
              obtain ⟨rfl, hb⟩ := hspot
              obtain ⟨ys, us, k1, k2, k3, k4, k5⟩ := elems_okL hek hby (kinds_one hek) (fun t cs d ps h ks hk hb hf => ih t cs d ps h m ks hk hb hf) len 0 fun i _ hi => hsome i (by omega)
              subst k2
              refine ⟨[.sl (decide (cap = ys.length)) ys], R.cons (R1.sl.2 ⟨_, cap, P.cellsOf e, us, rfl, ?_, hlc, hcm, fun h => by simpa using h, k1, hz, fun _ => ⟨b, o, rfl, hb, fun k u hu => ?_⟩⟩) (.nil _), .sl hln (by omega) k3 k4 .nil⟩
              · rw [List.all_eq_true]
                intro y hy
                have hp := (k4 y hy).pleaf
                cases y with
                | agg ds => exact hp
                | _ => simpa [D.cells, D.pure] using hp
              · have := k5 k u hu
                simpa using this
        | _ => cases hks
end

section
variable {P : Program} {M : Modes}
/-- One argument. -/
theorem arg_okL {B : Nat} {H : Type} {enc : TypeId × Value → H} {w : World} {t : TypeId} {v : Value} {d : DataW H} {ps : List MemPlace} {spare : Nat → Bool} {held : Bool} {base r b0 : Nat} {rr : Go.Reach} {m : Nat} {ks : List LK} (hk : kinds P m t = some ks)
    (hby : bytesOk P m t = true) (hft : Fits P B t d) (hval : Value.okWide P w rr b0 t v) (h : DataW.Trod enc P w base spare held t v d ps) : ∃ xs, R1 (Old w) w (vOf (isAggT P t) xs) v ∧ OkL B ks xs := by
  obtain ⟨fuel, hf⟩ := h
  obtain ⟨xs, h1, h2⟩ := trod_okL fuel t _ _ _ hf m ks hk hby hft
  refine ⟨xs, ?_, h2⟩
  have hpl := h2.pleaf
  unfold vOf
  cases ha : isAggT P t with
  | true =>
    simp only [if_true]
    have : ∃ cs, v = .agg cs := by
      unfold isAggT at ha
      unfold Value.okWide at hval
      split at ha
      · rename_i hu; rw [hu] at hval; obtain ⟨cs, rfl, _⟩ := hval; exact ⟨cs, rfl⟩
      · rename_i hu; rw [hu] at hval; obtain ⟨cs, rfl, _⟩ := hval; exact ⟨cs, rfl⟩
      · cases ha
    obtain ⟨cs, rfl⟩ := this
    refine R1.agg.2 ⟨cs.toList, by simp, by simpa [Value.cells] using h1, ?_⟩
    rw [List.all_eq_true] at hpl ⊢
    exact fun d hd => pleaf_leaf (hpl d hd)
  | false =>
    simp only [Bool.false_eq_true, if_false]
    have hl : xs.length = 1 := by rw [h2.length]; exact kinds_one hk ha
    obtain ⟨x, rfl⟩ := List.length_eq_one_iff.1 hl
    simp only [List.headD_cons]
    have hcs := h1.length
    have hone : ∃ u, v.cells.toList = [u] := by
      obtain ⟨u, hu⟩ := List.length_eq_one_iff.1 (show v.cells.toList.length = 1 by rw [← hcs]; rfl)
      exact ⟨u, hu⟩
    obtain ⟨u, hu⟩ := hone
    rw [hu] at h1
    have huv : u = v := by
      cases v with
      | agg cs =>
        exfalso
        unfold Value.okWide at hval
        unfold isAggT at ha
        have hcell : Cell.okWide P w rr b0 t (.agg cs) := by
          split at ha
          · cases ha
          · cases ha
          · rename_i h3 h4
            split at hval
            · rename_i hu; exact absurd hu (h3 _)
            · rename_i hu; exact absurd hu (h4 _ _)
            · exact hval
        unfold Cell.okWide at hcell
        split at hcell <;> simp_all [Cell.ok]
      | _ => simpa [Value.cells] using hu.symm
    rw [← huv]
    exact h1
theorem fits_of {H : Type} {P : Program} {ts : List TypeId} {ds : List (DataW H)} (h : (DataW.weightsEach P ts ds).all (· ≤ reachBytes) = true) {j : Nat} {t : TypeId} {d : DataW H} (ht : ts[j]? = some t) (hd : ds[j]? = some d) : Fits P reachBytes t d := fun n hn => by
  simpa using List.all_eq_true.1 h n (DataW.weights_mem_each ht hd n hn)
end
end Go.Proofs.Ytgibpomhiilehaa.Dv
