/- slices.Values of timers, gone through. The lines are turned from the worked proof GgSlicesIterAtTheDump (ints) to structs of three cells. -/
import Derived.RangeFuncBox
import Derived.RangeFuncNested
import Derived.RangeFuncLeaves
import Derived.Shelf.Abstract
import Derived.Shelf.SlicesQ.Load
import Derived.WalkKit
import Derived.OwnWalkIn
import Derived.TacticsInMore
import Derived.LoopNIn
import Derived.LoopIn
import Derived.Test.YtfclelafcdcilaaProg
set_option linter.unusedVariables false
set_option linter.unusedSimpArgs false
namespace Go.Proofs.Ytfclelafcdcilaa.Rf
open Go Go.Proofs Go.RowKit Go.Shelf Go.Lib
attribute [local go_sem] Oper.semAt_some
abbrev Tm := Int × Int × Int
def tmC (x : Tm) : List Value := [.int .i64 x.1, .int .i64 x.2.1, .int .i64 x.2.2]
abbrev tmA (x : Tm) : Value := .agg #[.int .i64 x.1, .int .i64 x.2.1, .int .i64 x.2.2]
/-- What has come when k rounds are over. -/
def upto {α : Type} (f : Nat → α) (k : Nat) : List α := (List.range k).map f
theorem upto_succ {α : Type} (f : Nat → α) (k : Nat) : upto f (k + 1) = upto f k ++ [f k] := by simp [upto, List.range_succ]
theorem upto_length {α : Type} (f : Nat → α) (k : Nat) : (upto f k).length = k := by simp [upto]
set_option maxRecDepth 100000 in
set_option maxHeartbeats 2000000 in
theorem values1_in (F : Fence) (n : Nat) (h7 : F.fn 64) (hro : F.round = none) (hn : 1 ≤ n) (l Bs n₀ b off len cap : Nat) (zs : Nat → Tm) (hbig : len ≤ 4398046511104) (hb : len ≠ 0 → b < n₀) (J : List Tm → World → Prop)
    (hY : ∀ pre x W, J pre W → pre.length < len → YieldAt F (n - 1) Try.prog l #[tmA x] W fun e W' =>
      e = .returned (.bool true) ∧ J (pre ++ [x]) W' ∧ Below n₀ W W')
    (W : World) (hn₀ : n₀ ≤ W.heap.size) (hJ : ∀ s W o, J s W → J s (W.alloc o)) (hBs : W.cell? ⟨Bs, 0, none⟩ = some (.slice (some ⟨b, off, none⟩) len cap)) (hc : ∀ j, j < len → ∀ i v, (tmC (zs j))[i]? = some v → W.cell? ⟨b, off + j * 3 + i, none⟩ = some v) (h0 : J [] W) :
    CallsIn F n Try.prog 64 #[.func (.yield l) #[] #[], .pointer (some ⟨Bs, 0, none⟩)] W fun e W' => (∃ v, e = .returned v) ∧ J (upto zs len) W' := by
  refine callsIn_of_wp Try.func64 rfl h7 ?_ hro
  simp only [Try.ntmps64, List.size_toArray, List.length_cons, List.length_nil, Nat.reduceAdd, Nat.reduceSub, Array.replicate_succ, Array.replicate_zero, List.push_toArray, List.append_toArray, List.nil_append, List.cons_append]
  gi_wp2
  gi_loopw [7] (fun i wr => ∃ k : Nat, k ≤ len ∧ i = .int .i64 k ∧ J (upto zs k) wr ∧ Below n₀ W wr)
    (fun i _ => len - (RowKit.intOf i).toNat)
  case atStart => exact ⟨0, Nat.zero_le _, rfl, h0, Below.refl _ _⟩
  case round =>
    obtain ⟨k, hk, rfl, hJs, hnx⟩ := hrel
    by_cases hlt : k < len
    · have cc : ∀ i v, (tmC (zs k))[i]? = some v → wr.cell? ⟨b, off + k * 3 + i, none⟩ = some v := fun i v hi => (hnx.cell (p := ⟨b, off + k * 3 + i, none⟩) (hb (by omega))).trans (hc k hlt i v hi)
      have c0 : wr.cell? ⟨b, off + k * 3, none⟩ = some (.int .i64 (zs k).1) := cc 0 _ rfl
      have c1 : wr.cell? ⟨b, off + k * 3 + 1, none⟩ = some (.int .i64 (zs k).2.1) := cc 1 _ rfl
      have c2 : wr.cell? ⟨b, off + k * 3 + 2, none⟩ = some (.int .i64 (zs k).2.2) := cc 2 _ rfl
      clear hc cc
      have hJ2 : J (upto zs k) (wr.alloc (.cells #[.int .i64 (zs k).1, .int .i64 (zs k).2.1, .int .i64 (zs k).2.2] 75)) := hJ _ wr _ hJs
      have hnx2 : Below n₀ W (wr.alloc (.cells #[.int .i64 (zs k).1, .int .i64 (zs k).2.1, .int .i64 (zs k).2.2] 75)) := hnx.alloc (by have := hnx.size; omega) _
      obtain ⟨fn, tmps, assign, body, hy, hR⟩ := hY _ (zs k) _ hJ2 (by rw [upto_length]; exact hlt)
      gi_wp2
      refine hR.mono ?_
      rintro e W3 ⟨rfl, hJ3, hk3⟩
      gi_wp2
      go_roundw
      case rel => exact ⟨k + 1, by omega, by simp, by rw [upto_succ]; exact hJ3, hnx2.trans hk3⟩
      case measure => simp [RowKit.intOf]; omega
    · obtain rfl : k = len := by omega
      gi_wp2
      go_end0
      exact ⟨⟨_, rfl⟩, hJs⟩
set_option maxRecDepth 100000 in
set_option maxHeartbeats 1000000 in
theorem values1_nil_in (F : Fence) (n : Nat) (h7 : F.fn 64) (hro : F.round = none) (l Bs : Nat) (a : Option Addr) (c : Nat) (J : List Tm → World → Prop) (W : World) (hBs : W.cell? ⟨Bs, 0, none⟩ = some (.slice a 0 c)) (h0 : J [] W) :
    CallsIn F n Try.prog 64 #[.func (.yield l) #[] #[], .pointer (some ⟨Bs, 0, none⟩)] W fun e W' => (∃ v, e = .returned v) ∧ J [] W' := by
  refine callsIn_of_wp Try.func64 rfl h7 ?_ hro
  simp only [Try.ntmps64, List.size_toArray, List.length_cons, List.length_nil, Nat.reduceAdd, Nat.reduceSub, Array.replicate_succ, Array.replicate_zero, List.push_toArray, List.append_toArray, List.nil_append, List.cons_append]
  gi_wp2
  gi_loopw [7] (fun i wr => i = .int .i64 0 ∧ J [] wr) (fun _ _ => 0)
  case atStart => exact ⟨rfl, h0⟩
  case round =>
    obtain ⟨rfl, hJs⟩ := hrel
    gi_wp2
    go_end0
    exact ⟨⟨_, rfl⟩, hJs⟩
/-! ### slices.AppendSeq of nothing and such an iterator -/
def flat (l : List Tm) : List Value := l.flatMap tmC
theorem flat_len (l : List Tm) : (flat l).length = l.length * 3 := by
  induction l with
  | nil => rfl
  | cons x r ih => unfold flat at *; rw [List.flatMap_cons, List.length_append, ih, List.length_cons]; show 3 + _ = _; omega
theorem flat_snoc (l : List Tm) (x : Tm) : flat (l ++ [x]) = flat l ++ tmC x := by unfold flat; simp
theorem belowK_bb {n₀ : Nat} {w W : World} {l : Nat} {o o' : Obj} (hn : n₀ ≤ w.heap.size) (hl : w.heap.size ≤ l) (h : W.heap[l]? = some o) : Below n₀ W (W.putObj l o') :=
  (Below.refl n₀ W).grown (grownBy_putObj' W l o') (by have := (Array.getElem?_eq_some_iff.1 h).1; omega) (fun k e => by cases e; omega)
/-- A range over an iterator that gives xs, where each round goes on; the invariant may speak of draws. -/
theorem wpIn_range {F : Fence} {n : Nat} {g : Operand} {ps : Array Tmp} {assign body : Code} {Q : Exit → Act → World → Prop} {a : Act} {w : World} (hro : F.round = none) (h1 : 1 ≤ n) {gf : Nat} {lb : Array Value} (hg : a.eval g = .func (.func gf) #[] lb) (hFg : F.fn gf)
    (eg : ∀ args w, (callFunc gf args).run Try.prog w = .ok (.enter gf args) w) (hps : ps.size = 1) (N n₀ : Nat) (hn₀ : n₀ ≤ w.heap.size) (xs : List Tm)
    (I : List Tm → World → Prop) (hIa : ∀ s W o, I s W → I s (W.alloc o)) (hIp : ∀ s W l r o', w.heap.size ≤ l → W.heap[l]? = some (.loop r) → I s W → I s (W.putObj l o'))
    (hseq : ∀ (l : Nat) (J : List Tm → World → Prop) (W : World), Below w.heap.size w W → (∀ s W o, J s W → J s (W.alloc o)) →
      (∀ pre x W1, J pre W1 → pre.length < N → YieldAt F (n - 1 - 1) Try.prog l #[tmA x] W1 fun e W' => e = .returned (.bool true) ∧ J (pre ++ [x]) W' ∧ Below n₀ W1 W') → J [] W →
      CallsIn F (n - 1) Try.prog gf (#[.func (.yield l) #[] #[]] ++ lb) W fun e W' => (∃ v, e = .returned v) ∧ J xs W')
    (Ax : Tm → Act → World → Prop) (hAx : ∀ x a' W l r o', w.heap.size ≤ l → W.heap[l]? = some (.loop r) → Ax x a' W → Ax x a' (W.putObj l o')) (h0 : I [] w)
    (hassign : ∀ (l : Nat) (pre : List Tm) (x : Tm) (W : World) (K : Act → World → Prop), I pre W → (∀ a' W', KeepsOthers W W' → Below n₀ W W' → I pre W' → Ax x a' W' → K a' W') →
      assign.wpIn (F.inRound l) (n - 1 - 1) Try.prog (Exit.then K (fun _ _ _ => False)) { tmps := (ps.zip #[tmA x]).foldl (fun t (p, v) => t.setIfInBounds p v) a.tmps, defers := [] } W)
    (hbody : ∀ (l : Nat) (pre : List Tm) (x : Tm) (a' : Act) (W : World), I pre W → Ax x a' W → pre.length < N → body.wpIn (F.inRound l) (n - 1 - 1) Try.prog (fun e _ W' => e = .normal ∧ KeepsOthers W W' ∧ Below n₀ W W' ∧ I (pre ++ [x]) W') a' W)
    (hdone : ∀ (D : Nat) (W : World), w.heap.size ≤ D → I xs W → W.heap[D]? = some (.deferred (some [])) → Q .normal { a with defers := { target := .collected D, args := #[] } :: a.defers } W) :
    (Code.rangeFunc g ps assign body).wpIn F n Try.prog Q a w := by
  refine wpIn_rangeFunc fun fn hfn => ?_
  rw [hro]
  let rc : LoopState → Loop := fun st => { state := st, pending := none, fn, tmps := a.tmps, params := ps, assign, body, defers := w.heap.size }
  generalize hW1 : (w.alloc (.deferred (some []))).alloc (.loop (rc .ready)) = W1
  have hs1 : (w.alloc (.deferred (some []))).heap.size = w.heap.size + 1 := by simp
  have hL : W1.heap[w.heap.size + 1]? = some (.loop (rc .ready)) := by
    rw [← hW1]; have := World.alloc_heap_new (w.alloc (.deferred (some []))) (.loop (rc .ready)); rwa [hs1] at this
  have hK : W1.heap[w.heap.size]? = some (.deferred (some [])) := by
    rw [← hW1]; exact (Below.heap_alloc _ _ _ (by rw [hs1]; omega)).trans (World.alloc_heap_new w _)
  have hI1 : I [] W1 := by rw [← hW1]; exact hIa _ _ _ (hIa _ _ _ h0)
  have hB1 : Below w.heap.size w W1 := by rw [← hW1]; exact ((Below.refl _ w).alloc (Nat.le_refl _) _).alloc (by rw [hs1]; omega) _
  refine ⟨w.heap.size + 1, [{ target := .collected w.heap.size, args := #[] }], W1, { target := .fn (.func gf) lb, args := #[.func (.yield (w.heap.size + 1)) #[] #[]] }, W1, gf, #[.func (.yield (w.heap.size + 1)) #[] #[]] ++ lb, W1, ?_, ?_, ?_, ?_, fun _ => h1, ?_⟩
  · rw [← hW1]; exact run_enterLoop_outer _ _ _ _ _
  · simp only [resolve, hg]
    simp [go_sem]
  · intro f' hf'
    simp [Target.leads] at hf'
    subst hf'; exact hFg
  · simp [invoke, go_sem, eg]
  · have tn : ∀ (W : World) (l : Nat) (o o' : Obj), w.heap.size ≤ l → W.heap[l]? = some o → Below n₀ W (W.putObj l o') := fun W l o o' hl ho => belowK_bb hn₀ hl ho
    refine (hseq (w.heap.size + 1) (fun pre W => I pre W ∧ W.heap[w.heap.size + 1]? = some (.loop (rc .ready)) ∧ W.heap[w.heap.size]? = some (.deferred (some []))) W1 hB1
      (fun s W o h => ⟨hIa _ _ _ h.1, (Below.heap_alloc _ _ _ (Array.getElem?_eq_some_iff.1 h.2.1).1).trans h.2.1, (Below.heap_alloc _ _ _ (Array.getElem?_eq_some_iff.1 h.2.2).1).trans h.2.2⟩) ?_ ⟨hI1, hL, hK⟩).mono ?_
    · rintro pre x W ⟨hi, hl, hk⟩ hlen
      have hy := run_yield (P := Try.prog) (args := #[tmA x]) hl (show (#[tmA x] : Array Value).size = ps.size by rw [hps]; rfl)
      refine ⟨fn, _, assign, body, hy, roundIn_of_wpIn hfn (hassign _ pre x W _ hi fun a' W' ko hb hi' hx => ?_)⟩
      have hl' := ko.same _ _ hl rfl
      have hk' := ko.same _ _ hk rfl
      refine ⟨_, run_beginRound hl' rfl, ?_⟩
      generalize hW2 : W'.putObj (w.heap.size + 1) (.loop { rc .ready with state := .busy }) = W2
      have hl2 : W2.heap[w.heap.size + 1]? = some (.loop (rc .busy)) := by rw [← hW2]; exact World.putObj_heap_same (Array.getElem?_eq_some_iff.1 hl').1
      have hk2 : W2.heap[w.heap.size]? = some (.deferred (some [])) := by rw [← hW2]; exact (World.putObj_heap_other (by omega)).trans hk'
      have hi2 : I pre W2 := by rw [← hW2]; exact hIp _ _ _ _ _ (by omega) hl' hi'
      have hx2 : Ax x a' W2 := by rw [← hW2]; exact hAx _ _ _ _ _ _ (by omega) hl' hx
      have hb2 : Below n₀ W W2 := by rw [← hW2]; exact hb.trans (tn _ _ _ _ (by omega) hl')
      refine wpIn_mono (hbody _ pre x a' W2 hi2 hx2 hlen) ?_
      rintro e a3 W3 ⟨rfl, ko3, hb3, hi3⟩
      have hl3 := ko3.same _ _ hl2 rfl
      have hk3 := ko3.same _ _ hk2 rfl
      refine ⟨_, _, run_endRound none hl3, rfl, ⟨hIp _ _ _ _ _ (by omega) hl3 hi3, World.putObj_heap_same (Array.getElem?_eq_some_iff.1 hl3).1, (World.putObj_heap_other (by omega)).trans hk3⟩, (hb2.trans hb3).trans (tn _ _ _ _ (by omega) hl3)⟩
    · rintro e W2 ⟨⟨v, rfl⟩, hi, hl, hk⟩
      exact ⟨none, _, run_endLoop (P := Try.prog) hl (by simp [rc]), hdone _ _ (Nat.le_refl _) (hIp _ _ _ _ _ (by omega) hl hi) ((World.putObj_heap_other (by omega)).trans hk)⟩
end Go.Proofs.Ytfclelafcdcilaa.Rf
