/- load.counts: how many members each priority has, and how many free ones. -/
import Derived.Test.YtgibpomhiilehaaN9
set_option linter.unusedVariables false
set_option linter.unusedSimpArgs false
namespace Go.Proofs.Ytgibpomhiilehaa.Dv
open Go Go.Proofs
abbrev Cnt := Int × Int × Int
def cntD (c : Cnt) : D := .agg [.int .i64 c.1, .int .i64 c.2.1, .int .i64 c.2.2]
def dCnt : D → Cnt
  | .agg [.int _ a, .int _ b, .int _ c] => (a, b, c)
  | _ => (0, 0, 0)
theorem map_dCnt (l : List Cnt) : (l.map cntD).map dCnt = l := by rw [List.map_map]; exact (List.map_congr_left fun x _ => rfl).trans (List.map_id l)
theorem pure_cntD (l : List Cnt) : (l.map cntD).all D.pure = true := by rw [List.all_eq_true]; intro x hx; obtain ⟨n, _, rfl⟩ := List.mem_map.1 hx; rfl
theorem okEl_cntD (l : List Cnt) : (l.map cntD).all (okEl 3) = true := by rw [List.all_eq_true]; intro x hx; obtain ⟨n, _, rfl⟩ := List.mem_map.1 hx; rfl
def codsA : TypeId → Option Codec
  | 122 => some ⟨Cnt, cntD⟩
  | t => codsN t
def aCfg (n0 : Nat) (l : List Ctr) (m : List RCtr) (h : List (Nat × Hn)) : WCfg := { spec := specOf l, bspec := bspecOf m, byref := byrefOf m, ro := roOf m, cod := codsA, H := hints h, n0 := n0 }
def SrtC (l : List Cnt) : Prop := l.Pairwise fun a b => a.1 < b.1
def posC (q : Int) (l : List Cnt) : Nat := (l.filter fun c => decide (c.1 < q)).length
def hasC (q : Int) (l : List Cnt) : Bool := l.any fun c => decide (c.1 = q)
theorem posC_le (q : Int) (l : List Cnt) : posC q l ≤ l.length := List.length_filter_le ..
theorem hasC_iff {q : Int} {l : List Cnt} : hasC q l = true ↔ ∃ c ∈ l, c.1 = q := by
  unfold hasC
  rw [List.any_eq_true]
  constructor
  · rintro ⟨c, hc, h⟩; exact ⟨c, hc, of_decide_eq_true h⟩
  · rintro ⟨c, hc, h⟩; exact ⟨c, hc, decide_eq_true h⟩
theorem srtC_split (q : Int) : ∀ {l : List Cnt}, SrtC l → ∃ A B, l = A ++ B ∧ A.length = posC q l ∧ (∀ a ∈ A, a.1 < q) ∧ (∀ b ∈ B, ¬ b.1 < q) ∧ (hasC q l = true ↔ ∃ c B', B = c :: B' ∧ c.1 = q)
  | [], _ => ⟨[], [], rfl, rfl, by simp, by simp, by simp [hasC]⟩
  | y :: r, h => by
    obtain ⟨h1, h2⟩ := List.pairwise_cons.1 h
    by_cases hy : y.1 < q
    · obtain ⟨A, B, e, e1, e2, e3, e4⟩ := srtC_split q h2
      refine ⟨y :: A, B, by rw [e]; rfl, by unfold posC at *; simp [hy, e1], ?_, e3, ?_⟩
      · intro a ha
        rcases List.mem_cons.1 ha with rfl | ha
        · exact hy
        · exact e2 a ha
      · rw [← e4]
        unfold hasC
        rw [List.any_cons, decide_eq_false (show ¬ y.1 = q by omega), Bool.false_or]
    · have hr : ∀ b ∈ r, q < b.1 := fun b hb => by have := h1 b hb; omega
      have hf : (y :: r).filter (fun c => decide (c.1 < q)) = [] := by
        rw [List.filter_eq_nil_iff]
        intro b hb
        rcases List.mem_cons.1 hb with rfl | hb
        · simpa using hy
        · have := hr b hb; simp; omega
      refine ⟨[], y :: r, rfl, by unfold posC; rw [hf], by simp, ?_, ?_⟩
      · intro b hb
        rcases List.mem_cons.1 hb with rfl | hb
        · exact hy
        · have := hr b hb; omega
      · rw [hasC_iff]
        constructor
        · rintro ⟨c, hc, he⟩
          rcases List.mem_cons.1 hc with rfl | hc
          · exact ⟨_, _, rfl, he⟩
          · have := hr c hc; omega
        · rintro ⟨c, B', e, he⟩
          injection e with e1 e2
          exact ⟨y, List.mem_cons_self .., by rw [e1]; exact he⟩
/-! ### the search -/
def cmS (vs : List D) : Option DOut := match vs with | [.agg [.int .i64 p, .int .i64 a, .int .i64 f], .int .i64 q] => some ⟨(0 ≤ p ∧ p ≤ 3) ∧ 0 ≤ q ∧ q ≤ 3, .int .i64 (if p < q then -1 else min (p - q) 1)⟩ | _ => none
theorem cmN (p a f q : Int) (h : (0 ≤ p ∧ p ≤ 3) ∧ 0 ≤ q ∧ q ≤ 3) : (decide (p < q) = true → D.int IntKind.i64 (-1 : Int) = D.int IntKind.i64 (if p < q then (-1 : Int) else min (p - q) (1 : Int))) ∧ (decide (p < q) = false → inK IntKind.i64 (p - q) ∧ D.int IntKind.i64 (min (p - q) (1 : Int)) = D.int IntKind.i64 (if p < q then (-1 : Int) else min (p - q) (1 : Int))) := by
  refine ⟨fun h1 => ?_, fun h1 => ⟨ink (by omega), ?_⟩⟩
  · rw [if_pos (of_decide_eq_true h1)]
  · rw [if_neg (of_decide_eq_false h1)]
def cmC : Ctr := ⟨100, cmS, by
  intro vs o ho hp
  unfold cmS at ho
  split at ho
  · rename_i p a f q; injection ho with ho; subst ho
    exact dataFun0 (C := aCfg 0 [] [] []) (ctrs_ok [] rfl rfl) rfl Try.func100 (by kernel_rfl) (by kernel_rfl) (by kernel_rfl) (by kernel_rfl) (by kernel_rfl) (cmN p a f q hp)
  · cases ho⟩
def bcL (f : Bool) (l : List Cnt) (q : Int) : WLoop :=
  { St := Nat × Nat
    O := Unit
    T := fun s => [(0, .sl f (l.map cntD)), (1, .int .i64 q), (2, .fn 100 [] []), (8, .int .i64 (l.map cntD).length), (9, .int .i64 s.1), (10, .int .i64 s.2)]
    ok := fun s => s.1 ≤ posC q l ∧ posC q l ≤ s.2 ∧ s.2 ≤ l.length ∧ l.length ≤ 1000 ∧ SrtC l ∧ (0 ≤ q ∧ q ≤ 3) ∧ ∀ c ∈ l, 0 ≤ c.1 ∧ c.1 ≤ 3
    μ := fun s => s.2 - s.1
    m := fun _ => ()
    outs := [{ α := Unit, is := fun _ _ => True, ex := .exit 0, T := fun _ => [(0, .sl f (l.map cntD)), (1, .int .i64 q), (2, .fn 100 [] []), (8, .int .i64 (l.map cntD).length), (9, .int .i64 (posC q l))] }] }
theorem bcR (f : Bool) (l : List Cnt) (q : Int) (s : (bcL f l q).St) (hs : (bcL f l q).ok s) : Tri Try.prog 0 49 (lp Try.f99 3) (tb ((bcL f l q).T s)) ((bcL f l q).S s) ((bcL f l q).q 0 s) := by
  obtain ⟨i, j⟩ := s
  obtain ⟨h1, h2, h3, h4, h5, h6, h7⟩ := hs
  simp only at h1 h2 h3
  refine round0 (C := aCfg 0 [cmC] [] []) (ctrs_ok ([cmC]) rfl rfl) (by kernel_rfl) (by kernel_rfl) (q := (decide ((↑i : Int) < (↑j : Int)) = true → inK IntKind.i64 ((↑i : Int) + (↑j : Int)) ∧ inK IntKind.u64 ((↑i : Int) + (↑j : Int)) ∧ (0 : Int) ≤ (1 : Int) ∧ inK IntKind.i64 (shrK IntKind.u64 ((↑i : Int) + (↑j : Int)) (1 : Int)) ∧ ∃ (y : Int × Int × Int), (0 : Int) ≤ shrK IntKind.u64 ((↑i : Int) + (↑j : Int)) (1 : Int) ∧ (List.map cntD l)[(shrK IntKind.u64 ((↑i : Int) + (↑j : Int)) (1 : Int)).toNat]? = some (D.agg [D.int IntKind.i64 y.fst, D.int IntKind.i64 y.snd.fst, D.int IntKind.i64 y.snd.snd]) ∧ (((0 : Int) ≤ y.fst ∧ y.fst ≤ (3 : Int)) ∧ (0 : Int) ≤ q ∧ q ≤ (3 : Int)) ∧ (decide ((if y.fst < q then (-1 : Int) else min (y.fst - q) (1 : Int)) < (0 : Int)) = true → inK IntKind.i64 (shrK IntKind.u64 ((↑i : Int) + (↑j : Int)) (1 : Int) + (1 : Int)) ∧ ∃ (s' : Nat × Nat), (s'.fst ≤ posC q l ∧ posC q l ≤ s'.snd ∧ s'.snd ≤ l.length ∧ l.length ≤ (1000 : Nat) ∧ List.Pairwise (fun (a b : Cnt) => a.fst < b.fst) l ∧ ((0 : Int) ≤ q ∧ q ≤ (3 : Int)) ∧ ∀ (c : Cnt), List.Mem c l → (0 : Int) ≤ c.fst ∧ c.fst ≤ (3 : Int)) ∧ (s'.snd - s'.fst).succ ≤ j - i ∧ () = () ∧ D.sl f (List.map cntD l) = D.sl f (List.map cntD l) ∧ D.int IntKind.i64 q = D.int IntKind.i64 q ∧ D.fn (100 : Nat) [] [] = D.fn (100 : Nat) [] [] ∧ D.int IntKind.i64 (↑(List.map cntD l).length : Int) = D.int IntKind.i64 (↑(List.map cntD l).length : Int) ∧ D.int IntKind.i64 (↑s'.fst : Int) = D.int IntKind.i64 (shrK IntKind.u64 ((↑i : Int) + (↑j : Int)) (1 : Int) + (1 : Int)) ∧ D.int IntKind.i64 (↑s'.snd : Int) = D.int IntKind.i64 (↑j : Int)) ∧ (decide ((if y.fst < q then (-1 : Int) else min (y.fst - q) (1 : Int)) < (0 : Int)) = false → ∃ (s' : Nat × Nat), (s'.fst ≤ posC q l ∧ posC q l ≤ s'.snd ∧ s'.snd ≤ l.length ∧ l.length ≤ (1000 : Nat) ∧ List.Pairwise (fun (a b : Cnt) => a.fst < b.fst) l ∧ ((0 : Int) ≤ q ∧ q ≤ (3 : Int)) ∧ ∀ (c : Cnt), List.Mem c l → (0 : Int) ≤ c.fst ∧ c.fst ≤ (3 : Int)) ∧ (s'.snd - s'.fst).succ ≤ j - i ∧ () = () ∧ D.sl f (List.map cntD l) = D.sl f (List.map cntD l) ∧ D.int IntKind.i64 q = D.int IntKind.i64 q ∧ D.fn (100 : Nat) [] [] = D.fn (100 : Nat) [] [] ∧ D.int IntKind.i64 (↑(List.map cntD l).length : Int) = D.int IntKind.i64 (↑(List.map cntD l).length : Int) ∧ D.int IntKind.i64 (↑s'.fst : Int) = D.int IntKind.i64 (↑i : Int) ∧ D.int IntKind.i64 (↑s'.snd : Int) = D.int IntKind.i64 (shrK IntKind.u64 ((↑i : Int) + (↑j : Int)) (1 : Int)))) ∧ (decide ((↑i : Int) < (↑j : Int)) = false → ∃ (a : Unit), True ∧ D.sl f (List.map cntD l) = D.sl f (List.map cntD l) ∧ D.int IntKind.i64 q = D.int IntKind.i64 q ∧ D.fn (100 : Nat) [] [] = D.fn (100 : Nat) [] [] ∧ D.int IntKind.i64 (↑(List.map cntD l).length : Int) = D.int IntKind.i64 (↑(List.map cntD l).length : Int) ∧ D.int IntKind.i64 (↑(posC q l) : Int) = D.int IntKind.i64 (↑i : Int))) (by kernel_rfl) ?_
  have hsh : shrK .u64 ((i : Int) + j) 1 = (((i + j) / 2 : Nat) : Int) := by
    unfold shrK
    rw [show min (1 : Int).toNat IntKind.u64.bits = 1 from rfl]
    omega
  rw [hsh]
  obtain ⟨A, B, e, e1, e2, e3, e4⟩ := srtC_split q h5
  refine ⟨fun h => ?_, fun h => ⟨(), trivial, ?_⟩⟩
  · have h := of_decide_eq_true h
    have hlt : (i + j) / 2 < l.length := by omega
    have hget : (List.map cntD l)[((((i + j) / 2 : Nat) : Int)).toNat]? = some (cntD l[(i + j) / 2]) := by
      rw [Int.toNat_natCast, List.getElem?_map, List.getElem?_eq_getElem hlt]; rfl
    have hm := h7 _ (List.getElem_mem hlt)
    refine ⟨ink (by omega), by simp only [inK]; omega, by omega, ink (by omega), l[(i + j) / 2], by omega, hget, ⟨hm, h6⟩, fun hy => ⟨ink (by omega), ((i + j) / 2 + 1, j), ⟨?_, h2, h3, h4, h5, h6, h7⟩, by simp only; omega, rfl, ?_⟩, fun hy => ⟨(i, (i + j) / 2), ⟨h1, ?_, by simp only; omega, h4, h5, h6, h7⟩, by simp only; omega, rfl, ?_⟩⟩
    · simp only
      rcases Nat.lt_or_ge ((i + j) / 2) (posC q l) with g | g
      · omega
      · have hm : l[(i + j) / 2] ∈ B := by
          have : l[(i + j) / 2] = B[(i + j) / 2 - A.length]'(by have := congrArg List.length e; rw [List.length_append] at this; omega) := by
            simp only [e]
            rw [List.getElem_append_right (by omega)]
          rw [this]; exact List.getElem_mem _
        have hy := of_decide_eq_true hy
        have := e3 _ hm
        rw [if_neg this] at hy
        omega
    · repeat' apply And.intro
      all_goals rfl
    · simp only
      rcases Nat.lt_or_ge ((i + j) / 2) (posC q l) with g | g
      · have hm : l[(i + j) / 2] ∈ A := by
          have : l[(i + j) / 2] = A[(i + j) / 2]'(by omega) := by
            simp only [e]
            rw [List.getElem_append_left (by omega)]
          rw [this]; exact List.getElem_mem _
        have hy := of_decide_eq_false hy
        rw [if_pos (e2 _ hm)] at hy
        omega
      · exact g
    · repeat' apply And.intro
      all_goals rfl
  · have h := of_decide_eq_false h
    have : posC q l = i := by omega
    rw [this]
    repeat' apply And.intro
    all_goals rfl
noncomputable def bcCfg (f : Bool) (l : List Cnt) (q : Int) : WCfg := { aCfg 0 [cmC] [] [] with loops := fun k => match k with | 3 => some ((bcL f l q).row []) | _ => none }
theorem bcN (f : Bool) (l : List Cnt) (q : Int) (h : l.length ≤ 1000) (hs : SrtC l) (hq : 0 ≤ q ∧ q ≤ 3) (hp : ∀ c ∈ l, 0 ≤ c.1 ∧ c.1 ≤ 3) : ∃ (b : Nat × Nat), (b.fst ≤ posC q l ∧ posC q l ≤ b.snd ∧ b.snd ≤ l.length ∧ l.length ≤ (1000 : Nat) ∧ List.Pairwise (fun (a b : Cnt) => a.fst < b.fst) l ∧ ((0 : Int) ≤ q ∧ q ≤ (3 : Int)) ∧ ∀ (c : Cnt), List.Mem c l → (0 : Int) ≤ c.fst ∧ c.fst ≤ (3 : Int)) ∧ (D.sl f (List.map cntD l) = D.sl f (List.map cntD l) ∧ D.int IntKind.i64 q = D.int IntKind.i64 q ∧ D.fn (100 : Nat) [] [] = D.fn (100 : Nat) [] [] ∧ D.int IntKind.i64 (↑(List.map cntD l).length : Int) = D.int IntKind.i64 (↑(List.map cntD l).length : Int) ∧ D.int IntKind.i64 (↑b.fst : Int) = D.int IntKind.i64 (0 : Int) ∧ D.int IntKind.i64 (↑b.snd : Int) = D.int IntKind.i64 (↑(List.map cntD l).length : Int)) ∧ ∀ (a : Unit), True → (decide ((↑(posC q l) : Int) < (↑(List.map cntD l).length : Int)) = true → ∃ (y : Int × Int × Int), (0 : Int) ≤ (↑(posC q l) : Int) ∧ (List.map cntD l)[(↑(posC q l) : Int).toNat]? = some (D.agg [D.int IntKind.i64 y.fst, D.int IntKind.i64 y.snd.fst, D.int IntKind.i64 y.snd.snd]) ∧ (((0 : Int) ≤ y.fst ∧ y.fst ≤ (3 : Int)) ∧ (0 : Int) ≤ q ∧ q ≤ (3 : Int)) ∧ D.tup [D.int IntKind.i64 (↑(posC q l) : Int), D.bool (decide ((if y.fst < q then (-1 : Int) else min (y.fst - q) (1 : Int)) = (0 : Int)))] = D.tup [D.int IntKind.i64 (↑(posC q l) : Int), D.bool (hasC q l)]) ∧ (decide ((↑(posC q l) : Int) < (↑(List.map cntD l).length : Int)) = false → D.tup [D.int IntKind.i64 (↑(posC q l) : Int), D.bool false] = D.tup [D.int IntKind.i64 (↑(posC q l) : Int), D.bool (hasC q l)]) := by
  obtain ⟨A, B, e, e1, e2, e3, e4⟩ := srtC_split q hs
  have hpl := posC_le q l
  refine ⟨(0, l.length), ⟨by omega, hpl, Nat.le_refl _, h, hs, hq, hp⟩, ?_, fun _ _ => ⟨fun g => ?_, fun g => ?_⟩⟩
  · rw [List.length_map]
    repeat' apply And.intro
    all_goals rfl
  · have g := of_decide_eq_true g
    rw [List.length_map] at g
    cases B with
    | nil =>
      have := congrArg List.length e
      rw [List.append_nil] at this
      omega
    | cons b B =>
      have hget : (l.map cntD)[((posC q l : Nat) : Int).toNat]? = some (cntD b) := by rw [Int.toNat_natCast, ← e1, e]; simp
      have hb := hp b (by rw [e]; simp)
      have hn := e3 b (List.mem_cons_self ..)
      refine ⟨b, by omega, hget, ⟨hb, hq⟩, ?_⟩
      rw [if_neg hn]
      have : decide (min (b.1 - q) 1 = 0) = hasC q l := by
        cases hx : hasC q l with
        | true =>
          obtain ⟨c, B', e5, e6⟩ := e4.1 hx
          injection e5 with e5
          subst e5
          exact decide_eq_true (by omega)
        | false =>
          refine decide_eq_false fun h0 => ?_
          have := e4.2 ⟨b, B, rfl, by omega⟩
          rw [hx] at this; cases this
      rw [this]
  · have g := of_decide_eq_false g
    rw [List.length_map] at g
    have hB : B = [] := by
      have := congrArg List.length e
      rw [List.length_append] at this
      exact List.eq_nil_of_length_eq_zero (by omega)
    have : hasC q l = false := by
      cases hx : hasC q l with
      | false => rfl
      | true => obtain ⟨c, B', e5, _⟩ := e4.1 hx; rw [hB] at e5; cases e5
    rw [this]
def bcS (vs : List D) : Option DOut := match vs with | [.sl f xs, .int .i64 q, .fn 100 [] []] => some ⟨∃ l : List Cnt, xs = l.map cntD ∧ l.length ≤ 1000 ∧ SrtC l ∧ (0 ≤ q ∧ q ≤ 3) ∧ ∀ c ∈ l, 0 ≤ c.1 ∧ c.1 ≤ 3, .tup [.int .i64 (posC q (xs.map dCnt)), .bool (hasC q (xs.map dCnt))]⟩ | _ => none
def bcC : Ctr := ⟨99, bcS, by
  intro vs o ho hp
  unfold bcS at ho
  split at ho
  · rename_i f xs q
    injection ho with ho; subst ho
    obtain ⟨l, rfl, h1, h2, h3, h4⟩ := hp
    simp only [map_dCnt]
    refine dataFunL (C := bcCfg f l q) (ctrs_ok [cmC] rfl rfl) rfl Try.func99 (by kernel_rfl) (l := [lp Try.f99 3]) (by kernel_rfl) ?_ (by kernel_rfl) (by kernel_rfl) (by kernel_rfl) (bcN f l q h1 h2 h3 h4)
    intro x hx
    rw [List.mem_singleton.1 hx]
    exact (bcL f l q).fits 3 [] (by kernel_rfl) rfl (bcR f l q)
  · cases ho⟩
end Go.Proofs.Ytgibpomhiilehaa.Dv
