/- slices.AppendSeq, slices.Collect of slices.Values of timers. The collecting body is turned from the worked proof GgPosAtTheDump. -/
import Derived.Test.YtfclelafcdcilaaR1
import Derived.Test.YtfclelafcdcilaaDvA
set_option linter.unusedVariables false
set_option linter.unusedSimpArgs false
namespace Go.Proofs.Ytfclelafcdcilaa.Rf
open Go Go.Proofs Go.RowKit Go.Shelf Go.Lib
attribute [local go_sem] Oper.semAt_some
theorem info_t : (Try.prog.info? 75).map (fun i => (i.zero, i.size, i.bytes)) = some (some (.agg #[.int .i64 0, .int .i64 0, .int .i64 0]), 3, 24) := by kernel_rfl
/-- A slice of timers in memory, below n₀. -/
def TmIn (n₀ : Nat) (W : World) (sv : Value) (zs : List Tm) : Prop :=
  (∃ a c, sv = .slice a 0 c ∧ zs = []) ∨ ∃ b off cap, sv = .slice (some ⟨b, off, none⟩) zs.length cap ∧ (zs.length ≠ 0 → b < n₀) ∧ ∀ j, j < zs.length → ∀ i v, (tmC (zs[j]?.getD (0, 0, 0)))[i]? = some v → W.cell? ⟨b, off + j * 3 + i, none⟩ = some v
theorem upto_all (zs : List Tm) : upto (fun j => zs[j]?.getD (0, 0, 0)) zs.length = zs := by
  apply List.ext_getElem
  · simp [upto]
  · intro i h1 h2
    simp [upto, h2]
theorem values_gives (F : Fence) (n : Nat) (h7 : F.fn 64) (hro : F.round = none) (hn : 1 ≤ n) (Bv : Nat) (sv : Value) (zs : List Tm) (hbig : zs.length ≤ 4398046511104) (w w1 : World) (hlt : Bv < w.heap.size) (hcell : w.cell? ⟨Bv, 0, none⟩ = some sv) (hI : TmIn w.heap.size w sv zs) (hw1 : Below w.heap.size w w1)
    (l : Nat) (J : List Tm → World → Prop) (W : World) (hW : Below w1.heap.size w1 W) (hJ : ∀ s W o, J s W → J s (W.alloc o))
    (hY : ∀ pre x W1, J pre W1 → pre.length < zs.length → YieldAt F (n - 1) Try.prog l #[tmA x] W1 fun e W' => e = .returned (.bool true) ∧ J (pre ++ [x]) W' ∧ Below w.heap.size W1 W') (h0 : J [] W) :
    CallsIn F n Try.prog 64 (#[.func (.yield l) #[] #[]] ++ #[.pointer (some ⟨Bv, 0, none⟩)]) W fun e W' => (∃ v, e = .returned v) ∧ J zs W' := by
  have hB : Below w.heap.size w W := hw1.trans (hW.mono hw1.size)
  have hc := (hB.cell (p := ⟨Bv, 0, none⟩) hlt).trans hcell
  rcases hI with ⟨a, c, rfl, rfl⟩ | ⟨b, off, cap, rfl, hb, hcs⟩
  · exact values1_nil_in F n h7 hro l Bv a c J W hc h0
  · have := values1_in F n h7 hro hn l Bv w.heap.size b off zs.length cap (fun j => zs[j]?.getD (0, 0, 0)) hbig hb J hY W hB.size hJ hc (fun j hj i v hi => (hB.cell (p := ⟨b, off + j * 3 + i, none⟩) (hb (by omega))).trans (hcs j hj i v hi)) h0
    rw [upto_all] at this
    exact this
theorem cells3_new (W : World) (a b c : Value) (t : TypeId) (j : Nat) (u : Value) (h : ([a, b, c] : List Value)[j]? = some u) : (W.alloc (.cells #[a, b, c] t)).cell? ((⟨W.heap.size, 0, none⟩ : Addr).add j) = some u := by
  have e : (W.alloc (.cells #[a, b, c] t)).heap[W.heap.size]? = some (.cells #[a, b, c] t (0, 0)) := World.alloc_heap_new W _
  have e3 : ∀ k, (W.alloc (.cells #[a, b, c] t)).cell? ⟨W.heap.size, k, none⟩ = (#[a, b, c] : Array Value)[k]? := fun k => by
    unfold World.cell?
    rw [show (W.alloc (.cells #[a, b, c] t)).heap[(⟨W.heap.size, k, none⟩ : Addr).block]? = some (.cells #[a, b, c] t (0, 0)) from e]
    rfl
  match j, h with
  | 0, h => exact (e3 0).trans (by simpa using h)
  | 1, h => exact (e3 1).trans (by simpa using h)
  | 2, h => exact (e3 2).trans (by simpa using h)
theorem cells3_at {W : World} {B : Nat} {a b c : Value} {t : TypeId} (e : W.heap[B]? = some (.cells #[a, b, c] t (0, 0))) : W.cell? ⟨B, 0, none⟩ = some a ∧ W.cell? ⟨B, 1, none⟩ = some b ∧ W.cell? ⟨B, 2, none⟩ = some c := by
  have e3 : ∀ k, W.cell? ⟨B, k, none⟩ = (#[a, b, c] : Array Value)[k]? := fun k => by
    unfold World.cell?
    rw [show W.heap[(⟨B, k, none⟩ : Addr).block]? = some (.cells #[a, b, c] t (0, 0)) from e]
    rfl
  exact ⟨e3 0, e3 1, e3 2⟩
/-- All cells of the block that a slice owns are one-cell values. -/
def OneC (W : World) (v : Value) : Prop := ∀ g n cap cur e, v = .slice (some ⟨g, 0, none⟩) n cap → W.heap[g]? = some (.cells cur e (0, 0)) → ∀ u ∈ cur.toList, u.oneCell' = true
theorem OneC.keep {W W' : World} {v : Value} (h : OneC W v) (hk : ∀ g, v.ownBlock = some g → W'.heap[g]? = W.heap[g]?) : OneC W' v := fun g n cap cur e hv hh => by
  subst hv
  rw [hk g rfl] at hh
  exact h g n cap cur e rfl hh
theorem OneC.nil (W : World) : OneC W (.slice none 0 0) := fun g n cap cur e hv => by cases hv
theorem oneC_at {W : World} {g n cap : Nat} {cur : Array Value} {e : TypeId} (hh : W.heap[g]? = some (.cells cur e (0, 0))) (h : ∀ u ∈ cur.toList, u.oneCell' = true) : OneC W (.slice (some ⟨g, 0, none⟩) n cap) := fun g' n' cap' cur' e' hv hh' => by
  have hg : g' = g := by simp at hv; exact hv.1.symm
  subst hg
  rw [hh] at hh'
  have hc : cur = cur' := by simp at hh'; exact hh'.1
  subst hc
  exact h
theorem oneC_new {w : World} {n cap : Nat} {cur : Array Value} {e : TypeId} (h : ∀ u ∈ cur.toList, u.oneCell' = true) : OneC (w.alloc (.cells cur e)) (.slice (some ⟨w.heap.size, 0, none⟩) n cap) := oneC_at (World.alloc_heap_new w _) h
theorem setCells_drawn : ∀ (l : List Value) (w : World) (b o : Nat), (w.setCells b o l).drawn = w.drawn
  | [], w, b, o => rfl
  | x :: r, w, b, o => setCells_drawn r (w.setCell ⟨b, o, none⟩ x) b (o + 1)
/-- An append to what is owned: draws do not fall; the block holds one-cell values still. -/
theorem append_more {w : World} {base : Nat} {t ty e : TypeId} {i : TypeInfo} {z : Value} {size bytes : Nat} (ht : Try.prog.underlying t = some (.slice e)) (hi : Try.prog.info? e = some i) (hz : i.zero = some z) (hzo : ∀ u ∈ z.cells.toList, u.oneCell' = true) (hsize : i.size = size) (hby : i.bytes = bytes)
    {v : Value} {k : Nat} {xs : List Value} (hown : w.ownsRow base e size v k xs) {ad : Addr} {m c : Nat} {news : List Value} (hm : 0 < m) (hl : news.length = m * size) (hnews : ∀ j u, news[j]? = some u → w.cell? (ad.add j) = some u) (h1 : ∀ u ∈ news, u.oneCell' = true) (ho : OneC w v)
    (h63 : k + m ≤ 4611686018427387904) (hb : (k + m) * bytes ≤ 140737488355328) {v' : Value} {w' : World} (hrun : (Builtin.append_ #[t, t] ty #[v, .slice (some ad) m c]).run Try.prog w = .ok v' w') : w.drawn ≤ w'.drawn ∧ OneC w' v' := by
  subst hsize hby
  have src := Src.ofSlice w ht ad m c news hl hnews h1
  have hnew2 : ∀ (olds : List Value) (q cap' : Nat), (∀ u ∈ olds, u.oneCell' = true) → OneC (w.drew.alloc (.cells ((olds ++ news).toArray ++ Builtin.zeroCells z.cells q) e)) (.slice (some ⟨w.heap.size, 0, none⟩) (k + m) cap') :=
    fun olds q cap' hol => oneC_new (w := w.drew) (fun u hu => by
      rw [Array.toList_append] at hu
      rcases List.mem_append.1 hu with hu | hu
      · rcases List.mem_append.1 hu with hu | hu
        · exact hol u hu
        · exact h1 u hu
      · exact Dv.zeroCells_one hzo q u hu)
  obtain ⟨hl0, ⟨rfl, rfl⟩ | ⟨g, cap, cur, rfl, hbase, hh, hk, hmx, hsz, htk⟩⟩ := hown
  · rw [run_append_grow_src w t t ty e i z ht hi hz none 0 0 [] (by simp [Builtin.firstCells]) _ m news src (by omega) (by omega) (growslice_fits (by omega) hb)] at hrun
    injection hrun with h0 h
    rw [← h, ← h0]; exact ⟨Nat.le_succ _, hnew2 [] _ _ (fun u hu => by cases hu)⟩
  · have hone := ho g k cap cur e rfl hh
    by_cases hr : k + m ≤ cap
    · have hfit : 0 + k * i.size + news.length ≤ cur.size := by
        have : (k + m) * i.size ≤ cap * i.size := Nat.mul_le_mul_right _ hr
        rw [Nat.add_mul] at this
        omega
      rw [Dv.run_append_into ht hi src hr hh hfit] at hrun
      injection hrun with h0 h
      rw [← h, ← h0]
      refine ⟨Nat.le_refl _, oneC_at (setRow_heap w g cur _ e (0, 0) hh) fun u hu => ?_⟩
      rcases List.mem_append.1 hu with hu | hu
      · rcases List.mem_append.1 hu with hu | hu
        · exact hone u (List.mem_of_mem_take hu)
        · exact h1 u hu
      · exact hone u (List.mem_of_mem_drop hu)
    · have hcells : ∀ j u, xs[j]? = some u → w.drew.cell? ((⟨g, 0, none⟩ : Addr).add j) = some u := fun j u hu => by
        rw [Addr.add_lit]
        rw [← htk] at hu
        have hu2 : cur[j]? = some u := by
          rw [List.getElem?_take] at hu
          split at hu
          · rw [Array.getElem?_toList] at hu; exact hu
          · cases hu
        show w.cell? _ = _
        unfold World.cell?
        rw [show w.heap[(⟨g, 0 + j, none⟩ : Addr).block]? = some (.cells cur e (0, 0)) from hh]
        simpa using hu2
      rw [run_append_grow_src w t t ty e i z ht hi hz (some ⟨g, 0, none⟩) k cap xs (run_firstCells_some w.drew _ _ _ _ _ xs hl0 hcells) _ m news src (by omega) (by omega) (growslice_fits (by omega) hb)] at hrun
      injection hrun with h0 h
      rw [← h, ← h0]; exact ⟨Nat.le_succ _, hnew2 xs _ _ (fun u hu => hone u (List.mem_of_mem_take (by rw [htk]; exact hu)))⟩
/-- The append of an own row, with its draws. -/
theorem append_step {F : Fence} {n : Nat} (w : World) {ops : Array Oper} {rest : List Oper} {o : Oper} {a : Act} {Q : Exit → Act → World → Prop} (hgd : o.guard = none) (s x : Operand) (t : TypeId) (hop : o.op = Op.call { callee := Callee.builtin Builtin.append, args := #[s, x], argTypes := #[t, t] })
    (base : Nat) (e : TypeId) (i : TypeInfo) (z : Value) (size bytes : Nat) (ht : Try.prog.underlying t = some (.slice e)) (hi : Try.prog.info? e = some i) (hz : i.zero = some z) (hzo : ∀ u ∈ z.cells.toList, u.oneCell' = true) (hsize : i.size = size) (hby : i.bytes = bytes) (hzs : z.cells.size = size) (hsz : 0 < size)
    (v : Value) (k : Nat) (xs : List Value) (hs : a.eval s = v) (hown : w.ownsRow base e size v k xs) (ho : OneC w v) (ad : Addr) (m c : Nat) (hm : 0 < m) (news : List Value) (hx : a.eval x = .slice (some ad) m c) (hl : news.length = m * size) (hnews : ∀ j u, news[j]? = some u → w.cell? (ad.add j) = some u) (h1 : ∀ u ∈ news, u.oneCell' = true)
    (h63 : k + m ≤ 4611686018427387904) (hb : (k + m) * bytes ≤ 140737488355328) (hbase : base ≤ w.heap.size)
    (hK : ∀ v' w', w'.ownsRow base e size v' (k + m) (xs ++ news) → w.grownBy w' v.ownBlock → w.drawn ≤ w'.drawn → OneC w' v' → wpListIn F n Try.prog ops Q rest (a.put o.dst v') w') : wpListIn F n Try.prog ops Q (o :: rest) a w := by
  refine wpListIn_plain hgd fun K hK' => ?_
  obtain ⟨v', w', hrun, r1, r2, _⟩ := run_append_own (P := Try.prog) w base t o.type e i z size bytes ht hi hz hsize hby hzs hsz v k xs hown ad m c news hl hnews h1 (by have : maxLen = 9223372036854775807 := rfl; omega) hb hbase
  obtain ⟨hd, ho'⟩ := append_more ht hi hz hzo hsize hby hown hm hl hnews h1 ho h63 hb hrun
  unfold Oper.wpIn
  refine ⟨?_, ?_⟩
  · simp [Oper.about, hop, resolve, Target.leads, Sem.run_pure]
  · rw [Oper.semAt_plain F _ _ (by rw [hop]; intro c hc'; cases hc')]
    simp [execOp, hop, resolve, invoke, builtin, hs, hx, hrun, Result.andThen]
    exact hK' _ _ (hK v' w' r1 r2 hd ho')
/-- Between two rounds: the box holds a slice that owns what has come; nil just where nothing has; nothing from before has turned; draws did not fall. -/
def ApI (w : World) (Bs : Nat) (pre : List Tm) (W : World) : Prop :=
  (∃ v, Boxed W Bs 45 v ∧ W.ownsRow w.heap.size 75 3 v pre.length (flat pre) ∧ (v = .slice none 0 0 ↔ pre = []) ∧ OneC W v) ∧ Below w.heap.size w W ∧ w.drawn ≤ W.drawn
theorem own_lt {W : World} {base size : Nat} {e : TypeId} {v : Value} {k : Nat} {xs : List Value} (h : W.ownsRow base e size v k xs) : ∀ g, v.ownBlock = some g → g < W.heap.size := fun g hg => by
  rcases h.2 with ⟨rfl, _⟩ | ⟨g', cap, cur, rfl, _, hh, _⟩
  · cases hg
  · injection hg with hg; subst hg; exact (Array.getElem?_eq_some_iff.1 hh).1
theorem own_cells {W : World} {base size : Nat} {e : TypeId} {v : Value} {k : Nat} {xs : List Value} (h : W.ownsRow base e size v k xs) : ∀ g, v.ownBlock = some g → ∃ cur, W.heap[g]? = some (.cells cur e (0, 0)) := fun g hg => by
  rcases h.2 with ⟨rfl, _⟩ | ⟨g', cap, cur, rfl, _, hh, _⟩
  · cases hg
  · injection hg with hg; subst hg; exact ⟨cur, hh⟩
theorem ApI.alloc {w : World} {Bs : Nat} {pre : List Tm} {W : World} (h : ApI w Bs pre W) (o : Obj) : ApI w Bs pre (W.alloc o) := by
  obtain ⟨⟨v, h1, h2, h3, h6⟩, h4, h5⟩ := h
  exact ⟨⟨v, h1.alloc o, h2.alloc o, h3, h6.keep fun g hg => Below.heap_alloc _ _ _ (own_lt h2 g hg)⟩, h4.alloc h4.size o, h5⟩
def AxT (w : World) (sv : Value) (x : Tm) (a' : Act) (W : World) : Prop :=
  ∃ B, w.heap.size < B ∧ W.heap[B]? = some (.cells #[.int .i64 x.1, .int .i64 x.2.1, .int .i64 x.2.2] 75 (0, 0)) ∧
    a' = { tmps := #[.slice none 0 0, sv, .pointer (some ⟨w.heap.size, 0, none⟩), undef, .slice none 0 0, .pointer (some ⟨B, 0, none⟩), sv, tmA x, undef, undef, undef, undef, undef], defers := [] }
set_option maxRecDepth 100000 in
set_option maxHeartbeats 2000000 in
theorem appendSeq_in (F : Fence) (n : Nat) (h9 : F.fn 69) (h7 : F.fn 64) (hro : F.round = none) (hn : 3 ≤ n) (Bv : Nat) (sv : Value) (zs : List Tm) (hbig : zs.length ≤ 100000) (w : World) (hlt : Bv < w.heap.size) (hcell : w.cell? ⟨Bv, 0, none⟩ = some sv) (hI : TmIn w.heap.size w sv zs) :
    CallsIn F n Try.prog 69 #[.slice none 0 0, .func (.func 64) #[] #[.pointer (some ⟨Bv, 0, none⟩)]] w fun e W' =>
      ∃ v, e = .returned v ∧ W'.ownsRow w.heap.size 75 3 v zs.length (flat zs) ∧ OneC W' v ∧ (v = .slice none 0 0 ↔ zs = []) ∧ Below w.heap.size w W' ∧ w.drawn ≤ W'.drawn := by
  have h1 : 1 ≤ n := by omega
  obtain ⟨i0, hi, hz0, hz1, hz2⟩ := info_parts info_t
  refine callsIn_of_wp_marks Try.func69 rfl h9 ?_ hro
  simp only [Try.ntmps69, List.size_toArray, List.length_cons, List.length_nil, Nat.reduceAdd, Nat.reduceSub, Array.replicate_succ, Array.replicate_zero, List.push_toArray, List.append_toArray, List.nil_append, List.cons_append]
  gi_wp2
  have bO := Boxed.new w 45 (.slice none 0 0)
  have hB0 : Below w.heap.size w (w.alloc (.cells #[.slice none 0 0] 45)) := (Below.refl _ w).alloc (Nat.le_refl _) _
  refine wpIn_range hro h1 (gf := 64) (lb := #[.pointer (some ⟨Bv, 0, none⟩)]) rfl h7 (enters_of Try.func64 (by kernel_rfl) rfl) rfl zs.length w.heap.size (by simp) zs
    (ApI w w.heap.size) (fun s W o h => h.alloc o) ?closed (fun l J W => values_gives F (n - 1) h7 hro (by omega) Bv sv zs (by omega) w _ hlt hcell hI hB0 l J W)
    (AxT w (.func (.func 64) #[] #[.pointer (some ⟨Bv, 0, none⟩)])) ?axk ⟨⟨_, bO, World.ownsRow_nil _ _ _ _, by simp, OneC.nil _⟩, hB0, Nat.le_refl _⟩ ?assign ?body ?done
  case closed =>
    rintro s W l r o' hl hr ⟨⟨v, a1, a2, a3, a6⟩, a4, a5⟩
    refine ⟨⟨v, ?_, ownsRow_putObj a2 o' hr rfl, a3, a6.keep fun g hg => World.putObj_heap_other (fun e => by obtain ⟨cur, hc⟩ := own_cells a2 g hg; rw [e, hr] at hc; cases hc)⟩, a4.trans (belowK_bb (Nat.le_refl _) (by simp at hl; omega) hr), a5⟩
    exact a1.kept (grownBy_putObj' W l o') (fun e => by injection e with e; simp at hl; omega)
  case axk =>
    rintro x a' W l r o' hl hr ⟨B, b1, b2, b3⟩
    refine ⟨B, b1, ?_, b3⟩
    have : B ≠ l := fun e => by rw [e, hr] at b2; cases b2
    exact (World.putObj_heap_other this).trans b2
  case assign =>
    intro l pre x W K hi' hK
    gi_wp2
    exact hK _ _ (KeepsOthers.alloc W _) ((Below.refl _ W).alloc hi'.2.1.size _) (hi'.alloc _) ⟨W.heap.size, by have := (Array.getElem?_eq_some_iff.1 (show W.heap[w.heap.size]? = _ from hi'.1.choose_spec.1)).1; omega, World.alloc_heap_new W _, rfl⟩
  case body =>
    rintro l pre x a' W ⟨⟨v, hv, hrow, hnil, hone⟩, hB, hd⟩ ⟨B, b1, b2, rfl⟩ hlt'
    have hc := hv.cell
    obtain ⟨c0, c1, c2⟩ := cells3_at b2
    have hka : ∀ (o : Obj) g, v.ownBlock = some g → (W.alloc o).heap[g]? = W.heap[g]? := fun o g hg => Below.heap_alloc _ _ _ (own_lt hrow g hg)
    have hd0 : ∀ W' : World, (W.alloc (.cells #[.int .i64 x.1, .int .i64 x.2.1, .int .i64 x.2.2] 75)).drawn ≤ W'.drawn → w.drawn ≤ W'.drawn := fun W' h => Nat.le_trans hd h
    gi_wp2_with (gi_at_builtin; refine append_step _ rfl _ _ 45 rfl w.heap.size 75 i0 (.agg #[.int .i64 0, .int .i64 0, .int .i64 0]) 3 24 Try.underlying45 hi hz0 (by simp [Value.cells, Value.oneCell']) hz1 hz2 rfl (by decide) _ _ _ rfl (hrow.alloc _) (hone.keep (hka _)) ⟨W.heap.size, 0, none⟩ 1 1 (by omega) (tmC x) rfl rfl (cells3_new _ _ _ _ _) (by simp [Value.oneCell', tmC]) (by omega) (by omega) (by have := hB.size; simp; omega) ?_; intro v' w1 hown' hgrow hdr hone'; obtain ⟨g', cap', rfl⟩ := ownsRow_succ hown'; obtain ⟨hv1, hv2, hr2, hk2, hb2⟩ := hv.appended (by decide) hrow hB.size (Nat.le_refl _) hown' hgrow; have hc1 := hv1.cell; have hf1 := hv1.frozen)
    exact ⟨⟨_, hv2, by rw [flat_snoc, List.length_append]; exact hr2, by simp, hone'.keep fun g hg => (grownBy_setCell' w1 _ _).block g (own_lt hown' g hg) (fun e => hv1.not_row (by decide) hown' (e ▸ hg.symm))⟩, hB.trans hb2, hd0 _ hdr⟩
  case done =>
    rintro D W hD ⟨⟨v, hv, hrow, hnil, hone⟩, hB, hd⟩ hK
    have hc := hv.cell
    gi_wp2
    refine ⟨by simp, .inl ⟨_, _, rfl, run_takeDeferred hK, ?_⟩⟩
    exact ⟨_, results_tmp rfl _ _ _, v, rfl, ownsRow_putObj hrow _ hK rfl, hone.keep (fun g hg => World.putObj_heap_other (fun e => by obtain ⟨cur, hc'⟩ := own_cells hrow g hg; rw [e, hK] at hc'; cases hc')), hnil, hB.trans (belowK_bb (Nat.le_refl _) (by simp at hD; omega) hK), hd⟩
set_option maxHeartbeats 1000000 in
theorem collect_in (F : Fence) (n : Nat) (h2 : F.fn 62) (h9 : F.fn 69) (h7 : F.fn 64) (hro : F.round = none) (hn : 4 ≤ n) (Bv : Nat) (sv : Value) (zs : List Tm) (hbig : zs.length ≤ 100000) (w : World) (hlt : Bv < w.heap.size) (hcell : w.cell? ⟨Bv, 0, none⟩ = some sv) (hI : TmIn w.heap.size w sv zs) :
    CallsIn F n Try.prog 62 #[.func (.func 64) #[] #[.pointer (some ⟨Bv, 0, none⟩)]] w fun e W' =>
      ∃ v, e = .returned v ∧ W'.ownsRow w.heap.size 75 3 v zs.length (flat zs) ∧ OneC W' v ∧ (v = .slice none 0 0 ↔ zs = []) ∧ Below w.heap.size w W' ∧ w.drawn ≤ W'.drawn := by
  have h1 : 1 ≤ n := by omega
  refine callsIn_of_wp Try.func62 rfl h2 ?_ hro
  simp only [Try.ntmps62, List.size_toArray, List.length_cons, List.length_nil, Nat.reduceAdd, Nat.reduceSub, Array.replicate_succ, Array.replicate_zero, List.push_toArray, List.append_toArray, List.nil_append, List.cons_append]
  gi_wp2_with (gi_at_call 69; refine (appendSeq_in F (n - 1) h9 h7 hro (by omega) Bv sv zs hbig w hlt hcell hI).mono ?_; rintro e w' ⟨v, rfl, r1, r0, r2, r3, r4⟩)
  go_ret
  exact ⟨v, rfl, r1, r0, r2, r3, r4⟩
end Go.Proofs.Ytfclelafcdcilaa.Rf
