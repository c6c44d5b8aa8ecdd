/- zone.Shares: how much falls to each zone. -/
import Derived.Test.YtgibpomhiilehaaN4
set_option linter.unusedVariables false
set_option linter.unusedSimpArgs false
namespace Go.Proofs.Ytgibpomhiilehaa.Dv
open Go Go.Proofs
def nmAt (names : List ByteArray) (i : Nat) : ByteArray := names.getD i .empty
def manyI (names : List ByteArray) (l : List Stat) (i : Nat) : Int := ((keptZ (nmAt names i) l).length : Int)
theorem cntZ_tab (names : List ByteArray) (l : List Stat) : cntZ names l = tab names.length (manyI names l) := by
  unfold cntZ
  conv => lhs; rw [tab_of ByteArray.empty names]
  rw [tab_map]
  rfl
def ovI (L ev : Int) (many : Nat → Int) (i : Nat) : Int := 10000 * many i / L - ev
def sh0 (n i : Nat) : List Shr := tab n fun k => (((if k < i then k else 0 : Nat) : Int), 0)
def zA (f : Bool) (l : List Stat) (n h : Nat) (ev : Int) (many : Nat → Int) : WLoop :=
  { St := Nat
    O := Unit
    T := fun i => [(1, .sl f (l.map statD)), (6, .int .i64 h), (8, .ms 0 0 n n true), (9, .int .i64 ev), (10, .ms 1 0 n n true), (11, .ms 2 0 n n true), (47, .ms 0 0 n n true), (48, .int .i64 n), (49, .int .i64 i)]
    S := fun i => [some (.row .own 1 ((tab n many).map iD)), some (.row .own 2 ((sh0 n i).map shD)), some (.row .own 1 ((tab n fun k => if k < i then ovI (l.map statD).length ev many k else 0).map iD))]
    ok := fun i => i ≤ n ∧ n ≤ 1000 ∧ 0 < l.length ∧ l.length ≤ 1000 ∧ 0 ≤ ev ∧ ev ≤ 10000 ∧ ∀ k, 0 ≤ many k ∧ many k ≤ 1000
    μ := fun i => n - i
    m := fun _ => ()
    src := [(0, true), (1, true), (2, true)]
    outs := [{ α := Unit, is := fun _ _ => True, ex := .exit 0, src := [(0, true), (1, true), (2, true)], T := fun _ => [(6, .int .i64 h), (8, .ms 0 0 n n true), (9, .int .i64 ev), (10, .ms 1 0 n n true), (11, .ms 2 0 n n true)], S := fun _ => [some (.row .own 1 ((tab n many).map iD)), some (.row .own 2 ((sh0 n n).map shD)), some (.row .own 1 ((tab n (ovI (l.map statD).length ev many)).map iD))] }] }
theorem zAR (f : Bool) (l : List Stat) (n h : Nat) (ev : Int) (many : Nat → Int) (i : Nat) (hs : (zA f l n h ev many).ok i) : Tri Try.prog 0 127 (lp Try.f23 10) (tb ((zA f l n h ev many).T i)) ((zA f l n h ev many).S i) ((zA f l n h ev many).q 0 i) := by
  obtain ⟨h1, h2, h3, h4, h5, h6, h7⟩ := hs
  refine round0 (C := nCfg 0 [] [] []) (ctrs_ok ([]) rfl rfl) (by kernel_rfl) (by kernel_rfl) (q := (decide ((↑i : Int) < (↑n : Int)) = true → (0 : Int) ≤ (↑i : Int) ∧ (↑i : Int) < (↑n : Int) ∧ ∃ (x : Int), (List.map iD (tab n many))[(0 : Nat) + (↑i : Int).toNat]? = some (D.int IntKind.i64 x) ∧ (0 : Int) ≤ (↑i : Int) ∧ (↑i : Int) < (↑n : Int) ∧ ∃ (x_1 : Int × Int), (List.map shD (sh0 n i))[(0 : Nat) + (↑i : Int).toNat]? = some (D.agg [D.int IntKind.i64 x_1.fst, D.int IntKind.i64 x_1.snd]) ∧ inK IntKind.i64 ((10000 : Int) * x) ∧ (0 : Int) ≤ (10000 : Int) * x ∧ (0 : Int) < (↑(List.map statD l).length : Int) ∧ inK IntKind.i64 ((10000 : Int) * x) ∧ inK IntKind.i64 ((10000 : Int) * x / (↑(List.map statD l).length : Int) - ev) ∧ (0 : Int) ≤ (↑i : Int) ∧ (↑i : Int) < (↑n : Int) ∧ ∃ (x_2 : Int), (List.map iD (tab n fun (k : Nat) => if k < i then ovI (↑(List.map statD l).length : Int) ev many k else (0 : Int)))[(0 : Nat) + (↑i : Int).toNat]? = some (D.int IntKind.i64 x_2) ∧ inK IntKind.i64 ((↑i : Int) + (1 : Int)) ∧ ∃ (s' : Nat), (s' ≤ n ∧ n ≤ (1000 : Nat) ∧ (1 : Nat) ≤ l.length ∧ l.length ≤ (1000 : Nat) ∧ (0 : Int) ≤ ev ∧ ev ≤ (10000 : Int) ∧ ∀ (k : Nat), (0 : Int) ≤ many k ∧ many k ≤ (1000 : Int)) ∧ (n - s').succ ≤ n - i ∧ () = () ∧ (D.sl f (List.map statD l) = D.sl f (List.map statD l) ∧ D.int IntKind.i64 (↑h : Int) = D.int IntKind.i64 (↑h : Int) ∧ D.ms (0 : Nat) (0 : Nat) n n true = D.ms (0 : Nat) (0 : Nat) n n true ∧ D.int IntKind.i64 ev = D.int IntKind.i64 ev ∧ D.ms (1 : Nat) (0 : Nat) n n true = D.ms (1 : Nat) (0 : Nat) n n true ∧ D.ms (2 : Nat) (0 : Nat) n n true = D.ms (2 : Nat) (0 : Nat) n n true ∧ D.ms (0 : Nat) (0 : Nat) n n true = D.ms (0 : Nat) (0 : Nat) n n true ∧ D.int IntKind.i64 (↑n : Int) = D.int IntKind.i64 (↑n : Int) ∧ D.int IntKind.i64 (↑s' : Int) = D.int IntKind.i64 ((↑i : Int) + (1 : Int))) ∧ (some (Ob.row St.own (1 : Nat) (List.map iD (tab n many))) = none ∨ some (Ob.row St.own (1 : Nat) (List.map iD (tab n many))) = some (Ob.row St.own (1 : Nat) (List.map iD (tab n many))) ∧ (List.map iD (tab n many)).all D.pure = true) ∧ (some (Ob.row St.own (2 : Nat) (List.map shD (sh0 n s'))) = none ∨ some (Ob.row St.own (2 : Nat) (List.map shD (sh0 n s'))) = some (Ob.row St.own (2 : Nat) ((List.map shD (sh0 n i)).set ((0 : Nat) + (↑i : Int).toNat) (D.agg [D.int IntKind.i64 (↑i : Int), D.int IntKind.i64 x_1.snd]))) ∧ ((List.map shD (sh0 n i)).set ((0 : Nat) + (↑i : Int).toNat) (D.agg [D.int IntKind.i64 (↑i : Int), D.int IntKind.i64 x_1.snd])).all D.pure = true) ∧ (some (Ob.row St.own (1 : Nat) (List.map iD (tab n fun (k : Nat) => if k < s' then ovI (↑(List.map statD l).length : Int) ev many k else (0 : Int)))) = none ∨ some (Ob.row St.own (1 : Nat) (List.map iD (tab n fun (k : Nat) => if k < s' then ovI (↑(List.map statD l).length : Int) ev many k else (0 : Int)))) = some (Ob.row St.own (1 : Nat) ((List.map iD (tab n fun (k : Nat) => if k < i then ovI (↑(List.map statD l).length : Int) ev many k else (0 : Int))).set ((0 : Nat) + (↑i : Int).toNat) (D.int IntKind.i64 ((10000 : Int) * x / (↑(List.map statD l).length : Int) - ev)))) ∧ ((List.map iD (tab n fun (k : Nat) => if k < i then ovI (↑(List.map statD l).length : Int) ev many k else (0 : Int))).set ((0 : Nat) + (↑i : Int).toNat) (D.int IntKind.i64 ((10000 : Int) * x / (↑(List.map statD l).length : Int) - ev))).all D.pure = true)) ∧ (decide ((↑i : Int) < (↑n : Int)) = false → ∃ (a : Unit), True ∧ (D.int IntKind.i64 (↑h : Int) = D.int IntKind.i64 (↑h : Int) ∧ D.ms (0 : Nat) (0 : Nat) n n true = D.ms (0 : Nat) (0 : Nat) n n true ∧ D.int IntKind.i64 ev = D.int IntKind.i64 ev ∧ D.ms (1 : Nat) (0 : Nat) n n true = D.ms (1 : Nat) (0 : Nat) n n true ∧ D.ms (2 : Nat) (0 : Nat) n n true = D.ms (2 : Nat) (0 : Nat) n n true) ∧ (some (Ob.row St.own (1 : Nat) (List.map iD (tab n many))) = none ∨ some (Ob.row St.own (1 : Nat) (List.map iD (tab n many))) = some (Ob.row St.own (1 : Nat) (List.map iD (tab n many))) ∧ (List.map iD (tab n many)).all D.pure = true) ∧ (some (Ob.row St.own (2 : Nat) (List.map shD (sh0 n n))) = none ∨ some (Ob.row St.own (2 : Nat) (List.map shD (sh0 n n))) = some (Ob.row St.own (2 : Nat) (List.map shD (sh0 n i))) ∧ (List.map shD (sh0 n i)).all D.pure = true) ∧ (some (Ob.row St.own (1 : Nat) (List.map iD (tab n (ovI (↑(List.map statD l).length : Int) ev many)))) = none ∨ some (Ob.row St.own (1 : Nat) (List.map iD (tab n (ovI (↑(List.map statD l).length : Int) ev many)))) = some (Ob.row St.own (1 : Nat) (List.map iD (tab n fun (k : Nat) => if k < i then ovI (↑(List.map statD l).length : Int) ev many k else (0 : Int)))) ∧ (List.map iD (tab n fun (k : Nat) => if k < i then ovI (↑(List.map statD l).length : Int) ev many k else (0 : Int))).all D.pure = true))) (by kernel_rfl) ?_
  have hln : ((List.map statD l).length : Int) = l.length := by rw [List.length_map]
  refine ⟨fun hlt => ?_, fun hge => ?_⟩
  · have hlt : i < n := by have := of_decide_eq_true hlt; omega
    obtain ⟨m1, m2⟩ := h7 i
    have hd : 10000 * many i / ((List.map statD l).length : Int) ≤ 10000000 := by
      rw [hln]
      exact Int.ediv_le_of_le_mul (by omega) (by have : (1 : Int) ≤ l.length := by omega
                                                 omega)
    have hd0 : 0 ≤ 10000 * many i / ((List.map statD l).length : Int) := Int.ediv_nonneg (by omega) (by omega)
    refine ⟨by omega, by omega, many i, iget _ hlt, by omega, by omega, (0, 0), ?_, ink (by omega), by omega, by omega, ink (by omega), ink (by omega), by omega, by omega, 0, ?_, ink (by omega), i + 1, ⟨by omega, h2, h3, h4, h5, h6, h7⟩, by omega, rfl, ⟨?_, .inr ⟨rfl, pure_iD _⟩, .inr ⟨?_, ?_⟩, .inr ⟨?_, ?_⟩⟩⟩
    · unfold sh0
      rw [sget _ hlt]
      simp
    · rw [iget _ hlt]
      simp
    · repeat' apply And.intro
      all_goals rfl
    · unfold sh0
      rw [sset]
      congr 3
      refine tab_congr fun k hk => ?_
      by_cases h : k = i
      · subst h; simp
      · have : (k < i + 1) = (k < i) := by apply propext; omega
        simp only [this, if_neg h]
    · unfold sh0
      rw [sset]
      exact pure_shD' _
    · rw [iset]
      congr 3
      refine tab_congr fun k hk => ?_
      by_cases h : k = i
      · subst h; simp [ovI]
      · have : (k < i + 1) = (k < i) := by apply propext; omega
        simp only [this, if_neg h]
    · rw [iset]
      exact pure_iD _
  · have hin : i = n := by have := of_decide_eq_false hge; omega
    subst hin
    refine ⟨(), trivial, ?_, .inr ⟨rfl, pure_iD _⟩, .inr ⟨rfl, pure_shD' _⟩, .inr ⟨?_, pure_iD _⟩⟩
    · repeat' apply And.intro
      all_goals rfl
    · congr 3
      refine tab_congr fun k hk => ?_
      rw [if_pos hk]
def fin0 (n h : Nat) (mine : Int) (parts : List Int) (k : Nat) : List Shr := tab n fun i => ((i : Int), if i = h then mine else if i < k then parts.getD i 0 else 0)
def zB (n h : Nat) (mine : Int) (parts : List Int) : WLoop :=
  { St := Nat
    O := Unit
    T := fun k => [(6, .int .i64 h), (10, .ms 0 0 n n true), (110, .sl true (parts.map iD)), (111, .int .i64 (parts.map iD).length), (112, .int .i64 k)]
    S := fun k => [some (.row .own 2 ((fin0 n h mine parts k).map shD))]
    ok := fun k => k ≤ parts.length ∧ parts.length ≤ n ∧ n ≤ 1000
    μ := fun k => parts.length - k
    m := fun _ => ()
    src := [(0, true)]
    outs := [{ α := Unit, is := fun _ _ => True, ex := .exit 2, src := [(0, true)], T := fun _ => [(10, .ms 0 0 n n true)], S := fun _ => [some (.row .own 2 ((fin0 n h mine parts parts.length).map shD))] }] }
theorem zBR (n h : Nat) (mine : Int) (parts : List Int) (k : Nat) (hs : (zB n h mine parts).ok k) : Tri Try.prog 0 127 (lp Try.f23 23) (tb ((zB n h mine parts).T k)) ((zB n h mine parts).S k) ((zB n h mine parts).q 0 k) := by
  obtain ⟨h1, h2, h3⟩ := hs
  refine round0 (C := nCfg 0 [] [] []) (ctrs_ok ([]) rfl rfl) (by kernel_rfl) (by kernel_rfl) (q := (decide ((↑k : Int) < (↑(List.map iD parts).length : Int)) = true → ∃ (y : Int), (0 : Int) ≤ (↑k : Int) ∧ (List.map iD parts)[(↑k : Int).toNat]? = some (D.int IntKind.i64 y) ∧ (decide ((↑k : Int) ≠ (↑h : Int)) = true → (0 : Int) ≤ (↑k : Int) ∧ (↑k : Int) < (↑n : Int) ∧ ∃ (x : Int × Int), (List.map shD (fin0 n h mine parts k))[(0 : Nat) + (↑k : Int).toNat]? = some (D.agg [D.int IntKind.i64 x.fst, D.int IntKind.i64 x.snd]) ∧ inK IntKind.i64 ((↑k : Int) + (1 : Int)) ∧ ∃ (s' : Nat), (s' ≤ parts.length ∧ parts.length ≤ n ∧ n ≤ (1000 : Nat)) ∧ (parts.length - s').succ ≤ parts.length - k ∧ () = () ∧ (D.int IntKind.i64 (↑h : Int) = D.int IntKind.i64 (↑h : Int) ∧ D.ms (0 : Nat) (0 : Nat) n n true = D.ms (0 : Nat) (0 : Nat) n n true ∧ D.sl true (List.map iD parts) = D.sl true (List.map iD parts) ∧ D.int IntKind.i64 (↑(List.map iD parts).length : Int) = D.int IntKind.i64 (↑(List.map iD parts).length : Int) ∧ D.int IntKind.i64 (↑s' : Int) = D.int IntKind.i64 ((↑k : Int) + (1 : Int))) ∧ (some (Ob.row St.own (2 : Nat) (List.map shD (fin0 n h mine parts s'))) = none ∨ some (Ob.row St.own (2 : Nat) (List.map shD (fin0 n h mine parts s'))) = some (Ob.row St.own (2 : Nat) ((List.map shD (fin0 n h mine parts k)).set ((0 : Nat) + (↑k : Int).toNat) (D.agg [D.int IntKind.i64 x.fst, D.int IntKind.i64 y]))) ∧ ((List.map shD (fin0 n h mine parts k)).set ((0 : Nat) + (↑k : Int).toNat) (D.agg [D.int IntKind.i64 x.fst, D.int IntKind.i64 y])).all D.pure = true)) ∧ (decide ((↑k : Int) ≠ (↑h : Int)) = false → inK IntKind.i64 ((↑k : Int) + (1 : Int)) ∧ ∃ (s' : Nat), (s' ≤ parts.length ∧ parts.length ≤ n ∧ n ≤ (1000 : Nat)) ∧ (parts.length - s').succ ≤ parts.length - k ∧ () = () ∧ (D.int IntKind.i64 (↑h : Int) = D.int IntKind.i64 (↑h : Int) ∧ D.ms (0 : Nat) (0 : Nat) n n true = D.ms (0 : Nat) (0 : Nat) n n true ∧ D.sl true (List.map iD parts) = D.sl true (List.map iD parts) ∧ D.int IntKind.i64 (↑(List.map iD parts).length : Int) = D.int IntKind.i64 (↑(List.map iD parts).length : Int) ∧ D.int IntKind.i64 (↑s' : Int) = D.int IntKind.i64 ((↑k : Int) + (1 : Int))) ∧ (some (Ob.row St.own (2 : Nat) (List.map shD (fin0 n h mine parts s'))) = none ∨ some (Ob.row St.own (2 : Nat) (List.map shD (fin0 n h mine parts s'))) = some (Ob.row St.own (2 : Nat) (List.map shD (fin0 n h mine parts k))) ∧ (List.map shD (fin0 n h mine parts k)).all D.pure = true))) ∧ (decide ((↑k : Int) < (↑(List.map iD parts).length : Int)) = false → ∃ (a : Unit), True ∧ D.ms (0 : Nat) (0 : Nat) n n true = D.ms (0 : Nat) (0 : Nat) n n true ∧ (some (Ob.row St.own (2 : Nat) (List.map shD (fin0 n h mine parts parts.length))) = none ∨ some (Ob.row St.own (2 : Nat) (List.map shD (fin0 n h mine parts parts.length))) = some (Ob.row St.own (2 : Nat) (List.map shD (fin0 n h mine parts k))) ∧ (List.map shD (fin0 n h mine parts k)).all D.pure = true))) (by kernel_rfl) ?_
  have hkl : (List.map iD parts).length = parts.length := List.length_map ..
  refine ⟨fun hlt => ?_, fun hge => ⟨(), trivial, rfl, .inr ⟨?_, pure_shD' _⟩⟩⟩
  · have hlt : k < parts.length := by have := of_decide_eq_true hlt; omega
    have hg : (List.map iD parts)[((k : Nat) : Int).toNat]? = some (iD (parts.getD k 0)) := by
      rw [Int.toNat_natCast, List.getElem?_map, List.getD_eq_getElem?_getD, List.getElem?_eq_getElem hlt]; rfl
    refine ⟨parts.getD k 0, by omega, hg, fun hne => ?_, fun he => ?_⟩
    · have hne : k ≠ h := by have := of_decide_eq_true hne; omega
      refine ⟨by omega, by omega, ((k : Int), 0), ?_, by simp only [inK]; omega, k + 1, ⟨by omega, h2, h3⟩, by omega, rfl, ?_, .inr ⟨?_, ?_⟩⟩
      · unfold fin0
        rw [sget _ (by omega)]
        simp [hne]
      · repeat' apply And.intro
        all_goals rfl
      · unfold fin0
        rw [sset]
        congr 3
        refine tab_congr fun i hi => ?_
        by_cases h : i = k
        · subst h; simp [hne]
        · have : (i < k + 1) = (i < k) := by apply propext; omega
          simp only [this, if_neg h]
      · unfold fin0
        rw [sset]
        exact pure_shD' _
    · have he : k = h := by have : ¬ ((k : Int) ≠ h) := of_decide_eq_false he; omega
      refine ⟨by simp only [inK]; omega, k + 1, ⟨by omega, h2, h3⟩, by omega, rfl, ?_, .inr ⟨?_, pure_shD' _⟩⟩
      · repeat' apply And.intro
        all_goals rfl
      · unfold fin0
        congr 3
        refine tab_congr fun i hi => ?_
        by_cases h : i = k
        · subst h; simp [he]
        · have : (i < k + 1) = (i < k) := by apply propext; omega
          simp only [this]
  · have : k = parts.length := by have := of_decide_eq_false hge; omega
    rw [this]
def evZ (n : Nat) : Int := 10000 / (n : Int)
def ov0 (n h : Nat) (L : Int) (many : Nat → Int) : List Int := tab n fun i => if i = h then 0 else ovI L (evZ n) many i
def mn0 (n h : Nat) (many : Nat → Int) : List Int := tab n fun i => if i = h then 0 else many i
def mineZ (n h : Nat) (L : Int) (many : Nat → Int) : Int := 10000 * (ovI L (evZ n) many h + evZ n) / evZ n
def partsZ (n h : Nat) (L : Int) (many : Nat → Int) : List Int := spreadV (10000 - mineZ n h L many) (if sumV (ov0 n h L many) = 0 then mn0 n h many else ov0 n h L many)
def zshV (n h : Nat) (L : Int) (many : Nat → Int) : List Shr :=
  if 0 ≤ ovI L (evZ n) many h then tab n fun i => ((i : Int), if i = h then 10000 else 0) else fin0 n h (mineZ n h L many) (partsZ n h L many) (partsZ n h L many).length
def zsh (own : ByteArray) (l : List Stat) : List Shr := if own = ByteArray.mk #[] ∨ hasB own (zNames l) = false ∨ (zNames l).length < 2 then [] else zshV (zNames l).length (posB own (zNames l)) l.length (manyI (zNames l) l)
noncomputable def zshC0 : List Ctr := [nmC, bsC, sumC, sprC2]
noncomputable def zshCfg (f : Bool) (own : ByteArray) (l : List Stat) : WCfg := { nCfg 0 zshC0 [ctC] [] with loops := fun k => match k with
  | 10 => some ((zA f l (zNames l).length (posB own (zNames l)) (evZ (zNames l).length) (manyI (zNames l) l)).row [(0, true), (1, true), (2, true)])
  | 23 => some ((zB (zNames l).length (posB own (zNames l)) (mineZ (zNames l).length (posB own (zNames l)) l.length (manyI (zNames l) l)) (partsZ (zNames l).length (posB own (zNames l)) l.length (manyI (zNames l) l))).row [(1, true)])
  | _ => none }
theorem zNames_own {own : ByteArray} {l : List Stat} (h : hasB own (zNames l) = true) : posB own (zNames l) < (zNames l).length := by
  obtain ⟨A, B, e, e1, e2, e3, e4⟩ := srt_split own (zNames_all l).1
  have hb := e4.1 (hasB_iff.1 h)
  rw [← e1]
  conv => rhs; rw [e]
  cases B with
  | nil => cases hb
  | cons b B => rw [List.length_append, List.length_cons]; omega
theorem many_bound (names : List ByteArray) {l : List Stat} (h : l.length ≤ 1000) (k : Nat) : 0 ≤ manyI names l k ∧ manyI names l k ≤ 1000 := by
  unfold manyI
  have : (keptZ (nmAt names k) l).length ≤ l.length := List.length_filter_le ..
  omega
theorem many_le (names : List ByteArray) (l : List Stat) (k : Nat) : manyI names l k ≤ l.length := by
  unfold manyI
  have : (keptZ (nmAt names k) l).length ≤ l.length := List.length_filter_le ..
  omega
theorem ov_bound {L ev : Int} {many : Nat → Int} {k : Nat} (hL : 0 < L) (h : 0 ≤ many k ∧ many k ≤ 1000) (he : 0 ≤ ev ∧ ev ≤ 10000) : -10000 ≤ ovI L ev many k ∧ ovI L ev many k ≤ 10000000 := by
  have hd : 10000 * many k / L ≤ 10000000 := Int.ediv_le_of_le_mul hL (by have h9 : (1 : Int) ≤ L := hL; omega)
  have hd0 : 0 ≤ 10000 * many k / L := Int.ediv_nonneg (by omega) (by omega)
  unfold ovI
  omega
theorem zshN (f : Bool) (own : ByteArray) (l : List Stat) (h1 : l.length ≤ 1000) (hn : (zNames l).length ≤ 100) : (∃ (l_1 : List Stat), List.map statD l = List.map statD l_1 ∧ l_1.length ≤ (1000 : Nat)) ∧ (∃ (l_1 : List ByteArray), List.map strD (zNames (List.map dStat (List.map statD l))) = List.map strD l_1 ∧ l_1.length ≤ (1000 : Nat) ∧ List.Pairwise (fun (a b : ByteArray) => lessB a b = true) l_1) ∧ (decide (own = ByteArray.mk #[]) = true → D.sl true [] = D.sl true (List.map shD (zsh own l))) ∧ (decide (own = ByteArray.mk #[]) = false → ((!hasB own (List.map dStr (List.map strD (zNames (List.map dStat (List.map statD l)))))) = true → D.sl true [] = D.sl true (List.map shD (zsh own l))) ∧ ((!hasB own (List.map dStr (List.map strD (zNames (List.map dStat (List.map statD l)))))) = false → (decide ((↑(List.map strD (zNames (List.map dStat (List.map statD l)))).length : Int) < (2 : Int)) = true → D.sl true [] = D.sl true (List.map shD (zsh own l))) ∧ (decide ((↑(List.map strD (zNames (List.map dStat (List.map statD l)))).length : Int) < (2 : Int)) = false → (∃ (l_1 : List Stat), ∃ (names : List ByteArray), List.map statD l = List.map statD l_1 ∧ List.map strD (zNames (List.map dStat (List.map statD l))) = List.map strD names ∧ l_1.length ≤ (1000 : Nat) ∧ List.Pairwise (fun (a b : ByteArray) => lessB a b = true) names ∧ names.length ≤ (1000 : Nat) ∧ ∀ (t : Stat), List.Mem t l_1 → List.Mem t.zone names) ∧ (0 : Int) ≤ (10000 : Int) ∧ (0 : Int) < (↑(List.map strD (zNames (List.map dStat (List.map statD l)))).length : Int) ∧ inK IntKind.i64 (10000 : Int) ∧ (0 : Int) ≤ (↑(List.map strD (zNames (List.map dStat (List.map statD l)))).length : Int) ∧ (↑(List.map strD (zNames (List.map dStat (List.map statD l)))).length : Int) ≤ (↑(List.map strD (zNames (List.map dStat (List.map statD l)))).length : Int) ∧ (↑(List.map strD (zNames (List.map dStat (List.map statD l)))).length : Int) * (16 : Int) ≤ (140737488355328 : Int) ∧ (↑(List.map strD (zNames (List.map dStat (List.map statD l)))).length : Int) ≤ (140737488355328 : Int) ∧ (0 : Int) ≤ (↑(List.map strD (zNames (List.map dStat (List.map statD l)))).length : Int) ∧ (↑(List.map strD (zNames (List.map dStat (List.map statD l)))).length : Int) ≤ (↑(List.map strD (zNames (List.map dStat (List.map statD l)))).length : Int) ∧ (↑(List.map strD (zNames (List.map dStat (List.map statD l)))).length : Int) * (8 : Int) ≤ (140737488355328 : Int) ∧ (↑(List.map strD (zNames (List.map dStat (List.map statD l)))).length : Int) ≤ (140737488355328 : Int) ∧ ∃ (b : Nat), (b ≤ (zNames l).length ∧ (zNames l).length ≤ (1000 : Nat) ∧ (1 : Nat) ≤ l.length ∧ l.length ≤ (1000 : Nat) ∧ (0 : Int) ≤ evZ (zNames l).length ∧ evZ (zNames l).length ≤ (10000 : Int) ∧ ∀ (k : Nat), (0 : Int) ≤ manyI (zNames l) l k ∧ manyI (zNames l) l k ≤ (1000 : Int)) ∧ ((D.sl f (List.map statD l) = D.sl f (List.map statD l) ∧ D.int IntKind.i64 (↑(posB own (zNames l)) : Int) = D.int IntKind.i64 (↑(posB own (List.map dStr (List.map strD (zNames (List.map dStat (List.map statD l)))))) : Int) ∧ D.ms (0 : Nat) (0 : Nat) (zNames l).length (zNames l).length true = D.ms (0 : Nat) (0 : Nat) (List.map strD (zNames (List.map dStat (List.map statD l)))).length (List.map strD (zNames (List.map dStat (List.map statD l)))).length true ∧ D.int IntKind.i64 (evZ (zNames l).length) = D.int IntKind.i64 ((10000 : Int) / (↑(List.map strD (zNames (List.map dStat (List.map statD l)))).length : Int)) ∧ D.ms (1 : Nat) (0 : Nat) (zNames l).length (zNames l).length true = D.ms (1 : Nat) (0 : Nat) (↑(List.map strD (zNames (List.map dStat (List.map statD l)))).length : Int).toNat (↑(List.map strD (zNames (List.map dStat (List.map statD l)))).length : Int).toNat true ∧ D.ms (2 : Nat) (0 : Nat) (zNames l).length (zNames l).length true = D.ms (2 : Nat) (0 : Nat) (↑(List.map strD (zNames (List.map dStat (List.map statD l)))).length : Int).toNat (↑(List.map strD (zNames (List.map dStat (List.map statD l)))).length : Int).toNat true ∧ D.ms (0 : Nat) (0 : Nat) (zNames l).length (zNames l).length true = D.ms (0 : Nat) (0 : Nat) (List.map strD (zNames (List.map dStat (List.map statD l)))).length (List.map strD (zNames (List.map dStat (List.map statD l)))).length true ∧ D.int IntKind.i64 (↑(zNames l).length : Int) = D.int IntKind.i64 (↑(List.map strD (zNames (List.map dStat (List.map statD l)))).length : Int) ∧ D.int IntKind.i64 (↑b : Int) = D.int IntKind.i64 (0 : Int)) ∧ (some (Ob.row St.own (1 : Nat) (List.map iD (tab (zNames l).length (manyI (zNames l) l)))) = none ∨ some (Ob.row St.own (1 : Nat) (List.map iD (tab (zNames l).length (manyI (zNames l) l)))) = some (Ob.row St.own (1 : Nat) (List.map iD (cntZ (List.map dStr (List.map strD (zNames (List.map dStat (List.map statD l))))) (List.map dStat (List.map statD l))))) ∧ (List.map iD (cntZ (List.map dStr (List.map strD (zNames (List.map dStat (List.map statD l))))) (List.map dStat (List.map statD l)))).all D.pure = true) ∧ (some (Ob.row St.own (2 : Nat) (List.map shD (sh0 (zNames l).length b))) = none ∨ some (Ob.row St.own (2 : Nat) (List.map shD (sh0 (zNames l).length b))) = some (Ob.row St.own (2 : Nat) (List.replicate (↑(List.map strD (zNames (List.map dStat (List.map statD l)))).length : Int).toNat (D.agg [D.int IntKind.i64 (0 : Int), D.int IntKind.i64 (0 : Int)]))) ∧ (List.replicate (↑(List.map strD (zNames (List.map dStat (List.map statD l)))).length : Int).toNat (D.agg [D.int IntKind.i64 (0 : Int), D.int IntKind.i64 (0 : Int)])).all D.pure = true) ∧ (some (Ob.row St.own (1 : Nat) (List.map iD (tab (zNames l).length fun (k : Nat) => if k < b then ovI (↑(List.map statD l).length : Int) (evZ (zNames l).length) (manyI (zNames l) l) k else (0 : Int)))) = none ∨ some (Ob.row St.own (1 : Nat) (List.map iD (tab (zNames l).length fun (k : Nat) => if k < b then ovI (↑(List.map statD l).length : Int) (evZ (zNames l).length) (manyI (zNames l) l) k else (0 : Int)))) = some (Ob.row St.own (1 : Nat) (List.replicate (↑(List.map strD (zNames (List.map dStat (List.map statD l)))).length : Int).toNat (D.int IntKind.i64 (0 : Int)))) ∧ (List.replicate (↑(List.map strD (zNames (List.map dStat (List.map statD l)))).length : Int).toNat (D.int IntKind.i64 (0 : Int))).all D.pure = true)) ∧ ∀ (a : Unit), True → (0 : Int) ≤ (↑(posB own (zNames l)) : Int) ∧ (↑(posB own (zNames l)) : Int) < (↑(zNames l).length : Int) ∧ ∃ (x : Int), (List.map iD (tab (zNames l).length (ovI (↑(List.map statD l).length : Int) (evZ (zNames l).length) (manyI (zNames l) l))))[(0 : Nat) + (↑(posB own (zNames l)) : Int).toNat]? = some (D.int IntKind.i64 x) ∧ (decide ((0 : Int) ≤ x) = true → (0 : Int) ≤ (↑(posB own (zNames l)) : Int) ∧ (↑(posB own (zNames l)) : Int) < (↑(zNames l).length : Int) ∧ ∃ (x : Int × Int), (List.map shD (sh0 (zNames l).length (zNames l).length))[(0 : Nat) + (↑(posB own (zNames l)) : Int).toNat]? = some (D.agg [D.int IntKind.i64 x.fst, D.int IntKind.i64 x.snd]) ∧ (0 : Nat) + (zNames l).length ≤ ((List.map shD (sh0 (zNames l).length (zNames l).length)).set ((0 : Nat) + (↑(posB own (zNames l)) : Int).toNat) (D.agg [D.int IntKind.i64 x.fst, D.int IntKind.i64 (10000 : Int)])).length ∧ (List.take (zNames l).length (List.drop (0 : Nat) ((List.map shD (sh0 (zNames l).length (zNames l).length)).set ((0 : Nat) + (↑(posB own (zNames l)) : Int).toNat) (D.agg [D.int IntKind.i64 x.fst, D.int IntKind.i64 (10000 : Int)])))).all D.pure = true ∧ D.sl (true && decide ((zNames l).length = (zNames l).length)) (List.take (zNames l).length (List.drop (0 : Nat) ((List.map shD (sh0 (zNames l).length (zNames l).length)).set ((0 : Nat) + (↑(posB own (zNames l)) : Int).toNat) (D.agg [D.int IntKind.i64 x.fst, D.int IntKind.i64 (10000 : Int)])))) = D.sl true (List.map shD (zsh own l))) ∧ (decide ((0 : Int) ≤ x) = false → (0 : Int) ≤ (↑(posB own (zNames l)) : Int) ∧ (↑(posB own (zNames l)) : Int) < (↑(zNames l).length : Int) ∧ ∃ (x_1 : Int), (List.map iD (tab (zNames l).length (ovI (↑(List.map statD l).length : Int) (evZ (zNames l).length) (manyI (zNames l) l))))[(0 : Nat) + (↑(posB own (zNames l)) : Int).toNat]? = some (D.int IntKind.i64 x_1) ∧ inK IntKind.i64 (x_1 + evZ (zNames l).length) ∧ inK IntKind.i64 ((10000 : Int) * (x_1 + evZ (zNames l).length)) ∧ (0 : Int) ≤ (10000 : Int) * (x_1 + evZ (zNames l).length) ∧ (0 : Int) < evZ (zNames l).length ∧ inK IntKind.i64 ((10000 : Int) * (x_1 + evZ (zNames l).length)) ∧ (0 : Int) ≤ (↑(posB own (zNames l)) : Int) ∧ (↑(posB own (zNames l)) : Int) < (↑(zNames l).length : Int) ∧ ∃ (x_2 : Int × Int), (List.map shD (sh0 (zNames l).length (zNames l).length))[(0 : Nat) + (↑(posB own (zNames l)) : Int).toNat]? = some (D.agg [D.int IntKind.i64 x_2.fst, D.int IntKind.i64 x_2.snd]) ∧ (0 : Int) ≤ (↑(posB own (zNames l)) : Int) ∧ (↑(posB own (zNames l)) : Int) < (↑(zNames l).length : Int) ∧ ∃ (x_3 : Int), (List.map iD (tab (zNames l).length (ovI (↑(List.map statD l).length : Int) (evZ (zNames l).length) (manyI (zNames l) l))))[(0 : Nat) + (↑(posB own (zNames l)) : Int).toNat]? = some (D.int IntKind.i64 x_3) ∧ (0 : Int) ≤ (↑(posB own (zNames l)) : Int) ∧ (↑(posB own (zNames l)) : Int) < (↑(zNames l).length : Int) ∧ ∃ (x_4 : Int), (List.map iD (tab (zNames l).length (manyI (zNames l) l)))[(0 : Nat) + (↑(posB own (zNames l)) : Int).toNat]? = some (D.int IntKind.i64 x_4) ∧ (0 : Nat) + (zNames l).length ≤ ((List.map iD (tab (zNames l).length (ovI (↑(List.map statD l).length : Int) (evZ (zNames l).length) (manyI (zNames l) l)))).set ((0 : Nat) + (↑(posB own (zNames l)) : Int).toNat) (D.int IntKind.i64 (0 : Int))).length ∧ (List.take (zNames l).length (List.drop (0 : Nat) ((List.map iD (tab (zNames l).length (ovI (↑(List.map statD l).length : Int) (evZ (zNames l).length) (manyI (zNames l) l)))).set ((0 : Nat) + (↑(posB own (zNames l)) : Int).toNat) (D.int IntKind.i64 (0 : Int))))).all D.pure = true ∧ (List.take (zNames l).length (List.drop (0 : Nat) ((List.map iD (tab (zNames l).length (ovI (↑(List.map statD l).length : Int) (evZ (zNames l).length) (manyI (zNames l) l)))).set ((0 : Nat) + (↑(posB own (zNames l)) : Int).toNat) (D.int IntKind.i64 (0 : Int)))) = List.map iD (List.map dI (List.take (zNames l).length (List.drop (0 : Nat) ((List.map iD (tab (zNames l).length (ovI (↑(List.map statD l).length : Int) (evZ (zNames l).length) (manyI (zNames l) l)))).set ((0 : Nat) + (↑(posB own (zNames l)) : Int).toNat) (D.int IntKind.i64 (0 : Int)))))) ∧ (List.take (zNames l).length (List.drop (0 : Nat) ((List.map iD (tab (zNames l).length (ovI (↑(List.map statD l).length : Int) (evZ (zNames l).length) (manyI (zNames l) l)))).set ((0 : Nat) + (↑(posB own (zNames l)) : Int).toNat) (D.int IntKind.i64 (0 : Int))))).length ≤ (9223372036854775807 : Nat)) ∧ (decide (sumV (List.map dI (List.take (zNames l).length (List.drop (0 : Nat) ((List.map iD (tab (zNames l).length (ovI (↑(List.map statD l).length : Int) (evZ (zNames l).length) (manyI (zNames l) l)))).set ((0 : Nat) + (↑(posB own (zNames l)) : Int).toNat) (D.int IntKind.i64 (0 : Int)))))) = (0 : Int)) = true → (0 : Int) ≤ (↑(posB own (zNames l)) : Int) ∧ (↑(posB own (zNames l)) : Int) < (↑(zNames l).length : Int) ∧ ∃ (x : Int × Int), ((List.map shD (sh0 (zNames l).length (zNames l).length)).set ((0 : Nat) + (↑(posB own (zNames l)) : Int).toNat) (D.agg [D.int IntKind.i64 x_2.fst, D.int IntKind.i64 ((10000 : Int) * (x_1 + evZ (zNames l).length) / evZ (zNames l).length)]))[(0 : Nat) + (↑(posB own (zNames l)) : Int).toNat]? = some (D.agg [D.int IntKind.i64 x.fst, D.int IntKind.i64 x.snd]) ∧ inK IntKind.i64 ((10000 : Int) - x.snd) ∧ (0 : Nat) + (zNames l).length ≤ ((List.map iD (tab (zNames l).length (manyI (zNames l) l))).set ((0 : Nat) + (↑(posB own (zNames l)) : Int).toNat) (D.int IntKind.i64 (0 : Int))).length ∧ (List.take (zNames l).length (List.drop (0 : Nat) ((List.map iD (tab (zNames l).length (manyI (zNames l) l))).set ((0 : Nat) + (↑(posB own (zNames l)) : Int).toNat) (D.int IntKind.i64 (0 : Int))))).all D.pure = true ∧ (rI ((10000 : Int) - x.snd) ∧ ∃ (l_1 : List Int), List.take (zNames l).length (List.drop (0 : Nat) ((List.map iD (tab (zNames l).length (manyI (zNames l) l))).set ((0 : Nat) + (↑(posB own (zNames l)) : Int).toNat) (D.int IntKind.i64 (0 : Int)))) = List.map iD l_1 ∧ (∀ (p : Int), List.Mem p l_1 → rI p) ∧ l_1.length ≤ (100 : Nat)) ∧ ∃ (b : Nat), (b ≤ (partsZ (zNames l).length (posB own (zNames l)) (↑l.length : Int) (manyI (zNames l) l)).length ∧ (partsZ (zNames l).length (posB own (zNames l)) (↑l.length : Int) (manyI (zNames l) l)).length ≤ (zNames l).length ∧ (zNames l).length ≤ (1000 : Nat)) ∧ ((D.int IntKind.i64 (↑(posB own (zNames l)) : Int) = D.int IntKind.i64 (↑(posB own (zNames l)) : Int) ∧ D.ms (0 : Nat) (0 : Nat) (zNames l).length (zNames l).length true = D.ms (0 : Nat) (0 : Nat) (zNames l).length (zNames l).length true ∧ D.sl true (List.map iD (partsZ (zNames l).length (posB own (zNames l)) (↑l.length : Int) (manyI (zNames l) l))) = D.sl true (List.map iD (spreadV ((10000 : Int) - x.snd) (List.map dI (List.take (zNames l).length (List.drop (0 : Nat) ((List.map iD (tab (zNames l).length (manyI (zNames l) l))).set ((0 : Nat) + (↑(posB own (zNames l)) : Int).toNat) (D.int IntKind.i64 (0 : Int)))))))) ∧ D.int IntKind.i64 (↑(List.map iD (partsZ (zNames l).length (posB own (zNames l)) (↑l.length : Int) (manyI (zNames l) l))).length : Int) = D.int IntKind.i64 (↑(List.map iD (spreadV ((10000 : Int) - x.snd) (List.map dI (List.take (zNames l).length (List.drop (0 : Nat) ((List.map iD (tab (zNames l).length (manyI (zNames l) l))).set ((0 : Nat) + (↑(posB own (zNames l)) : Int).toNat) (D.int IntKind.i64 (0 : Int)))))))).length : Int) ∧ D.int IntKind.i64 (↑b : Int) = D.int IntKind.i64 (0 : Int)) ∧ (some (Ob.row St.own (2 : Nat) (List.map shD (fin0 (zNames l).length (posB own (zNames l)) (mineZ (zNames l).length (posB own (zNames l)) (↑l.length : Int) (manyI (zNames l) l)) (partsZ (zNames l).length (posB own (zNames l)) (↑l.length : Int) (manyI (zNames l) l)) b))) = none ∨ some (Ob.row St.own (2 : Nat) (List.map shD (fin0 (zNames l).length (posB own (zNames l)) (mineZ (zNames l).length (posB own (zNames l)) (↑l.length : Int) (manyI (zNames l) l)) (partsZ (zNames l).length (posB own (zNames l)) (↑l.length : Int) (manyI (zNames l) l)) b))) = some (Ob.row St.own (2 : Nat) ((List.map shD (sh0 (zNames l).length (zNames l).length)).set ((0 : Nat) + (↑(posB own (zNames l)) : Int).toNat) (D.agg [D.int IntKind.i64 x_2.fst, D.int IntKind.i64 ((10000 : Int) * (x_1 + evZ (zNames l).length) / evZ (zNames l).length)]))) ∧ ((List.map shD (sh0 (zNames l).length (zNames l).length)).set ((0 : Nat) + (↑(posB own (zNames l)) : Int).toNat) (D.agg [D.int IntKind.i64 x_2.fst, D.int IntKind.i64 ((10000 : Int) * (x_1 + evZ (zNames l).length) / evZ (zNames l).length)])).all D.pure = true)) ∧ ∀ (a : Unit), True → (0 : Nat) + (zNames l).length ≤ (List.map shD (fin0 (zNames l).length (posB own (zNames l)) (mineZ (zNames l).length (posB own (zNames l)) (↑l.length : Int) (manyI (zNames l) l)) (partsZ (zNames l).length (posB own (zNames l)) (↑l.length : Int) (manyI (zNames l) l)) (partsZ (zNames l).length (posB own (zNames l)) (↑l.length : Int) (manyI (zNames l) l)).length)).length ∧ (List.take (zNames l).length (List.drop (0 : Nat) (List.map shD (fin0 (zNames l).length (posB own (zNames l)) (mineZ (zNames l).length (posB own (zNames l)) (↑l.length : Int) (manyI (zNames l) l)) (partsZ (zNames l).length (posB own (zNames l)) (↑l.length : Int) (manyI (zNames l) l)) (partsZ (zNames l).length (posB own (zNames l)) (↑l.length : Int) (manyI (zNames l) l)).length)))).all D.pure = true ∧ D.sl (true && decide ((zNames l).length = (zNames l).length)) (List.take (zNames l).length (List.drop (0 : Nat) (List.map shD (fin0 (zNames l).length (posB own (zNames l)) (mineZ (zNames l).length (posB own (zNames l)) (↑l.length : Int) (manyI (zNames l) l)) (partsZ (zNames l).length (posB own (zNames l)) (↑l.length : Int) (manyI (zNames l) l)) (partsZ (zNames l).length (posB own (zNames l)) (↑l.length : Int) (manyI (zNames l) l)).length)))) = D.sl true (List.map shD (zsh own l))) ∧ (decide (sumV (List.map dI (List.take (zNames l).length (List.drop (0 : Nat) ((List.map iD (tab (zNames l).length (ovI (↑(List.map statD l).length : Int) (evZ (zNames l).length) (manyI (zNames l) l)))).set ((0 : Nat) + (↑(posB own (zNames l)) : Int).toNat) (D.int IntKind.i64 (0 : Int)))))) = (0 : Int)) = false → (0 : Int) ≤ (↑(posB own (zNames l)) : Int) ∧ (↑(posB own (zNames l)) : Int) < (↑(zNames l).length : Int) ∧ ∃ (x : Int × Int), ((List.map shD (sh0 (zNames l).length (zNames l).length)).set ((0 : Nat) + (↑(posB own (zNames l)) : Int).toNat) (D.agg [D.int IntKind.i64 x_2.fst, D.int IntKind.i64 ((10000 : Int) * (x_1 + evZ (zNames l).length) / evZ (zNames l).length)]))[(0 : Nat) + (↑(posB own (zNames l)) : Int).toNat]? = some (D.agg [D.int IntKind.i64 x.fst, D.int IntKind.i64 x.snd]) ∧ inK IntKind.i64 ((10000 : Int) - x.snd) ∧ (0 : Nat) + (zNames l).length ≤ ((List.map iD (tab (zNames l).length (ovI (↑(List.map statD l).length : Int) (evZ (zNames l).length) (manyI (zNames l) l)))).set ((0 : Nat) + (↑(posB own (zNames l)) : Int).toNat) (D.int IntKind.i64 (0 : Int))).length ∧ (List.take (zNames l).length (List.drop (0 : Nat) ((List.map iD (tab (zNames l).length (ovI (↑(List.map statD l).length : Int) (evZ (zNames l).length) (manyI (zNames l) l)))).set ((0 : Nat) + (↑(posB own (zNames l)) : Int).toNat) (D.int IntKind.i64 (0 : Int))))).all D.pure = true ∧ (rI ((10000 : Int) - x.snd) ∧ ∃ (l_1 : List Int), List.take (zNames l).length (List.drop (0 : Nat) ((List.map iD (tab (zNames l).length (ovI (↑(List.map statD l).length : Int) (evZ (zNames l).length) (manyI (zNames l) l)))).set ((0 : Nat) + (↑(posB own (zNames l)) : Int).toNat) (D.int IntKind.i64 (0 : Int)))) = List.map iD l_1 ∧ (∀ (p : Int), List.Mem p l_1 → rI p) ∧ l_1.length ≤ (100 : Nat)) ∧ ∃ (b : Nat), (b ≤ (partsZ (zNames l).length (posB own (zNames l)) (↑l.length : Int) (manyI (zNames l) l)).length ∧ (partsZ (zNames l).length (posB own (zNames l)) (↑l.length : Int) (manyI (zNames l) l)).length ≤ (zNames l).length ∧ (zNames l).length ≤ (1000 : Nat)) ∧ ((D.int IntKind.i64 (↑(posB own (zNames l)) : Int) = D.int IntKind.i64 (↑(posB own (zNames l)) : Int) ∧ D.ms (0 : Nat) (0 : Nat) (zNames l).length (zNames l).length true = D.ms (0 : Nat) (0 : Nat) (zNames l).length (zNames l).length true ∧ D.sl true (List.map iD (partsZ (zNames l).length (posB own (zNames l)) (↑l.length : Int) (manyI (zNames l) l))) = D.sl true (List.map iD (spreadV ((10000 : Int) - x.snd) (List.map dI (List.take (zNames l).length (List.drop (0 : Nat) ((List.map iD (tab (zNames l).length (ovI (↑(List.map statD l).length : Int) (evZ (zNames l).length) (manyI (zNames l) l)))).set ((0 : Nat) + (↑(posB own (zNames l)) : Int).toNat) (D.int IntKind.i64 (0 : Int)))))))) ∧ D.int IntKind.i64 (↑(List.map iD (partsZ (zNames l).length (posB own (zNames l)) (↑l.length : Int) (manyI (zNames l) l))).length : Int) = D.int IntKind.i64 (↑(List.map iD (spreadV ((10000 : Int) - x.snd) (List.map dI (List.take (zNames l).length (List.drop (0 : Nat) ((List.map iD (tab (zNames l).length (ovI (↑(List.map statD l).length : Int) (evZ (zNames l).length) (manyI (zNames l) l)))).set ((0 : Nat) + (↑(posB own (zNames l)) : Int).toNat) (D.int IntKind.i64 (0 : Int)))))))).length : Int) ∧ D.int IntKind.i64 (↑b : Int) = D.int IntKind.i64 (0 : Int)) ∧ (some (Ob.row St.own (2 : Nat) (List.map shD (fin0 (zNames l).length (posB own (zNames l)) (mineZ (zNames l).length (posB own (zNames l)) (↑l.length : Int) (manyI (zNames l) l)) (partsZ (zNames l).length (posB own (zNames l)) (↑l.length : Int) (manyI (zNames l) l)) b))) = none ∨ some (Ob.row St.own (2 : Nat) (List.map shD (fin0 (zNames l).length (posB own (zNames l)) (mineZ (zNames l).length (posB own (zNames l)) (↑l.length : Int) (manyI (zNames l) l)) (partsZ (zNames l).length (posB own (zNames l)) (↑l.length : Int) (manyI (zNames l) l)) b))) = some (Ob.row St.own (2 : Nat) ((List.map shD (sh0 (zNames l).length (zNames l).length)).set ((0 : Nat) + (↑(posB own (zNames l)) : Int).toNat) (D.agg [D.int IntKind.i64 x_2.fst, D.int IntKind.i64 ((10000 : Int) * (x_1 + evZ (zNames l).length) / evZ (zNames l).length)]))) ∧ ((List.map shD (sh0 (zNames l).length (zNames l).length)).set ((0 : Nat) + (↑(posB own (zNames l)) : Int).toNat) (D.agg [D.int IntKind.i64 x_2.fst, D.int IntKind.i64 ((10000 : Int) * (x_1 + evZ (zNames l).length) / evZ (zNames l).length)])).all D.pure = true)) ∧ ∀ (a : Unit), True → (0 : Nat) + (zNames l).length ≤ (List.map shD (fin0 (zNames l).length (posB own (zNames l)) (mineZ (zNames l).length (posB own (zNames l)) (↑l.length : Int) (manyI (zNames l) l)) (partsZ (zNames l).length (posB own (zNames l)) (↑l.length : Int) (manyI (zNames l) l)) (partsZ (zNames l).length (posB own (zNames l)) (↑l.length : Int) (manyI (zNames l) l)).length)).length ∧ (List.take (zNames l).length (List.drop (0 : Nat) (List.map shD (fin0 (zNames l).length (posB own (zNames l)) (mineZ (zNames l).length (posB own (zNames l)) (↑l.length : Int) (manyI (zNames l) l)) (partsZ (zNames l).length (posB own (zNames l)) (↑l.length : Int) (manyI (zNames l) l)) (partsZ (zNames l).length (posB own (zNames l)) (↑l.length : Int) (manyI (zNames l) l)).length)))).all D.pure = true ∧ D.sl (true && decide ((zNames l).length = (zNames l).length)) (List.take (zNames l).length (List.drop (0 : Nat) (List.map shD (fin0 (zNames l).length (posB own (zNames l)) (mineZ (zNames l).length (posB own (zNames l)) (↑l.length : Int) (manyI (zNames l) l)) (partsZ (zNames l).length (posB own (zNames l)) (↑l.length : Int) (manyI (zNames l) l)) (partsZ (zNames l).length (posB own (zNames l)) (↑l.length : Int) (manyI (zNames l) l)).length)))) = D.sl true (List.map shD (zsh own l))))))) := by
  obtain ⟨g1, g2, g3⟩ := zNames_all l
  have hne : ∀ N : Nat, (true && decide (N = N)) = true := fun N => by simp
  rw [map_dStat, map_dStr, show (List.map strD (zNames l)).length = (zNames l).length from List.length_map .., show (List.map statD l).length = l.length from List.length_map .., Int.toNat_natCast]
  refine ⟨⟨l, rfl, h1⟩, ⟨zNames l, rfl, by omega, g1⟩, fun he => ?_, fun he => ⟨fun hh => ?_, fun hh => ⟨fun h2 => ?_, fun h2 => ?_⟩⟩⟩
  · have he := of_decide_eq_true he
    rw [show zsh own l = [] from if_pos (.inl he)]; rfl
  · have hh : hasB own (zNames l) = false := by simpa using hh
    rw [show zsh own l = [] from if_pos (.inr (.inl hh))]; rfl
  · have h2 : (zNames l).length < 2 := by have := of_decide_eq_true h2; omega
    rw [show zsh own l = [] from if_pos (.inr (.inr h2))]; rfl
  have he := of_decide_eq_false he
  have hh : hasB own (zNames l) = true := by simpa using hh
  have h2 : ¬ (zNames l).length < 2 := by have := of_decide_eq_false h2; omega
  have hz : zsh own l = zshV (zNames l).length (posB own (zNames l)) l.length (manyI (zNames l) l) := if_neg (by rintro (h | h | h); exact he h; rw [hh] at h; cases h; exact h2 h)
  have hp := zNames_own hh
  have hmb := many_bound (zNames l) h1
  rw [hz]
  have hc : cntZ (zNames l) l = tab (zNames l).length (manyI (zNames l) l) := cntZ_tab _ _
  rw [hc]
  generalize posB own (zNames l) = h at *
  generalize manyI (zNames l) l = many at *
  have hN : 2 ≤ (zNames l).length ∧ (zNames l).length ≤ 100 := by omega
  have hL : 0 < l.length := by omega
  have hmem : ∀ t ∈ l, t.zone ∈ zNames l := fun t ht => (g3 _).2 ⟨t, ht, rfl⟩
  have hev : 100 ≤ evZ (zNames l).length ∧ evZ (zNames l).length ≤ 5000 := by
    unfold evZ
    generalize (zNames l).length = n at hN
    have e1 : (0 : Int) < n := by omega
    refine ⟨(Int.le_ediv_iff_mul_le e1).2 (by omega), Int.ediv_le_of_le_mul e1 (by omega)⟩
  refine ⟨⟨l, zNames l, rfl, rfl, h1, g1, by omega, hmem⟩, by omega, by omega, ink (by omega), by omega, by omega, by omega, by omega, by omega, by omega, by omega, by omega, 0, ⟨by omega, by omega, hL, h1, by omega, by omega, hmb⟩, ⟨?_, .inr ⟨rfl, pure_iD _⟩, .inr ⟨?_, ?_⟩, .inr ⟨?_, ?_⟩⟩, fun _ _ => ?_⟩
  · repeat' apply And.intro
    all_goals rfl
  · unfold sh0
    rw [tab_rep, tab_map]
    congr 3
  · rw [List.all_eq_true]; intro x hx; rw [List.eq_of_mem_replicate hx]; rfl
  · rw [tab_rep, tab_map]
    rfl
  · rw [List.all_eq_true]; intro x hx; rw [List.eq_of_mem_replicate hx]; rfl
  generalize hNN : (zNames l).length = N at *
  have hob := fun k => ov_bound (k := k) (L := (l.length : Int)) (ev := evZ N) (by omega) (hmb k) (by omega)
  have hoh := hob h
  refine ⟨by omega, by omega, ovI l.length (evZ N) many h, iget _ hp, fun hx => ?_, fun hx => ?_⟩
  · have hx := of_decide_eq_true hx
    have e1 : (List.map shD (sh0 N N)).set (0 + ((h : Nat) : Int).toNat) (.agg [.int .i64 ((h : Nat) : Int), .int .i64 10000]) = List.map shD (tab N fun i => ((i : Int), if i = h then 10000 else 0)) := by
      unfold sh0
      rw [sset]
      refine congrArg _ (tab_congr fun k hk => ?_)
      by_cases g : k = h
      · subst g; simp
      · simp [g, hk]
    refine ⟨by omega, by omega, (((h : Nat) : Int), 0), by unfold sh0; rw [sget _ hp]; simp [hp], ?_, ?_, ?_⟩
    · rw [e1]; simp [tab_len]
    · rw [e1, fullT]; exact pure_shD' _
    · rw [e1, fullT, hne]; unfold zshV; rw [if_pos hx]
  have hx := of_decide_eq_false hx
  have hu : 0 ≤ ovI l.length (evZ N) many h + evZ N := by
    unfold ovI
    have := Int.ediv_nonneg (a := 10000 * many h) (b := (l.length : Int)) (by have := hmb h; omega) (by omega)
    omega
  have hm : 0 ≤ mineZ N h l.length many ∧ mineZ N h l.length many ≤ 10000 := by
    unfold mineZ
    exact ⟨Int.ediv_nonneg (by omega) (by omega), Int.ediv_le_of_le_mul (by omega) (by omega)⟩
  have hmd : 10000 * (ovI l.length (evZ N) many h + evZ N) / evZ N = mineZ N h l.length many := rfl
  have e2 : (List.map iD (tab N (ovI l.length (evZ N) many))).set (0 + ((h : Nat) : Int).toNat) (.int .i64 0) = List.map iD (ov0 N h l.length many) := iset h _ 0
  have e3 : (List.map iD (tab N many)).set (0 + ((h : Nat) : Int).toNat) (.int .i64 0) = List.map iD (mn0 N h many) := iset h _ 0
  have t2 : List.take N (List.drop 0 (List.map iD (ov0 N h l.length many))) = List.map iD (ov0 N h l.length many) := fullT _ _ _
  have t3 : List.take N (List.drop 0 (List.map iD (mn0 N h many))) = List.map iD (mn0 N h many) := fullT _ _ _
  have l2 : (ov0 N h l.length many).length = N := tab_len _ _
  have l3 : (mn0 N h many).length = N := tab_len _ _
  have r2 : ∀ p ∈ ov0 N h l.length many, rI p := by
    intro p hp'
    obtain ⟨k, _, rfl⟩ := List.mem_map.1 hp'
    have := hob k
    unfold rI
    split <;> omega
  have r3 : ∀ p ∈ mn0 N h many, rI p := by
    intro p hp'
    obtain ⟨k, _, rfl⟩ := List.mem_map.1 hp'
    have := hmb k
    unfold rI
    split <;> omega
  have hzv : zshV N h l.length many = fin0 N h (mineZ N h l.length many) (partsZ N h l.length many) (partsZ N h l.length many).length := by unfold zshV; rw [if_neg hx]
  have e4 : (List.map shD (sh0 N N)).set (0 + ((h : Nat) : Int).toNat) (.agg [.int .i64 ((h : Nat) : Int), .int .i64 (mineZ N h l.length many)]) = List.map shD (fin0 N h (mineZ N h l.length many) (partsZ N h l.length many) 0) := by
    unfold sh0 fin0
    rw [sset]
    refine congrArg _ (tab_congr fun k hk => ?_)
    by_cases g : k = h
    · subst g; simp
    · simp [g, hk]
  have g4 : (List.map shD (fin0 N h (mineZ N h l.length many) (partsZ N h l.length many) 0))[0 + ((h : Nat) : Int).toNat]? = some (.agg [.int .i64 ((h : Nat) : Int), .int .i64 (mineZ N h l.length many)]) := by
    unfold fin0
    rw [sget _ hp]
    simp
  have tf : ∀ k, List.take N (List.drop 0 (List.map shD (fin0 N h (mineZ N h l.length many) (partsZ N h l.length many) k))) = List.map shD (fin0 N h (mineZ N h l.length many) (partsZ N h l.length many) k) := fun k => fullT _ _ _
  have lf : ∀ k, (List.map shD (fin0 N h (mineZ N h l.length many) (partsZ N h l.length many) k)).length = N := fun k => by rw [List.length_map]; exact tab_len _ _
  have hpl : (partsZ N h l.length many).length ≤ N := by
    unfold partsZ
    split
    · exact Nat.le_trans (spreadV_len _ _) (by omega)
    · exact Nat.le_trans (spreadV_len _ _) (by omega)
  have hoN := hob h
  refine ⟨by omega, by omega, ovI l.length (evZ N) many h, iget _ hp, ink (by omega), ink (by omega), by omega, by omega, ink (by omega), by omega, by omega, (((h : Nat) : Int), 0), by unfold sh0; rw [sget _ hp]; simp [hp], by omega, by omega, ovI l.length (evZ N) many h, iget _ hp, by omega, by omega, many h, iget _ hp, ?_⟩
  rw [hmd, e2, e3, e4, t2, t3, map_dI, map_dI]
  refine ⟨by rw [List.length_map, l2]; omega, pure_iD _, ⟨rfl, by rw [List.length_map, l2]; omega⟩, fun hs => ?_, fun hs => ?_⟩
  · have hs := of_decide_eq_true hs
    have hpz : partsZ N h l.length many = spreadV (10000 - mineZ N h l.length many) (mn0 N h many) := by unfold partsZ; rw [if_pos hs]
    refine ⟨by omega, by omega, (((h : Nat) : Int), mineZ N h l.length many), g4, ink (by omega), by rw [List.length_map, l3]; omega, pure_iD _, ⟨by unfold rI; omega, mn0 N h many, rfl, r3, by omega⟩, 0, ⟨by omega, hpl, by omega⟩, ⟨?_, .inr ⟨rfl, pure_shD' _⟩⟩, fun _ _ => ⟨by rw [lf]; omega, ?_, ?_⟩⟩
    · simp only [← hpz]
      repeat' apply And.intro
      all_goals trivial
    · rw [tf]; exact pure_shD' _
    · rw [tf, hne, hzv]
  · have hs := of_decide_eq_false hs
    have hpz : partsZ N h l.length many = spreadV (10000 - mineZ N h l.length many) (ov0 N h l.length many) := by unfold partsZ; rw [if_neg hs]
    refine ⟨by omega, by omega, (((h : Nat) : Int), mineZ N h l.length many), g4, ink (by omega), by rw [List.length_map, l2]; omega, pure_iD _, ⟨by unfold rI; omega, ov0 N h l.length many, rfl, r2, by omega⟩, 0, ⟨by omega, hpl, by omega⟩, ⟨?_, .inr ⟨rfl, pure_shD' _⟩⟩, fun _ _ => ⟨by rw [lf]; omega, ?_, ?_⟩⟩
    · simp only [← hpz]
      repeat' apply And.intro
      all_goals trivial
    · rw [tf]; exact pure_shD' _
    · rw [tf, hne, hzv]
def zshS (vs : List D) : Option DOut := match vs with | [.str own, .sl f xs] => some ⟨∃ l : List Stat, xs = l.map statD ∧ l.length ≤ 1000 ∧ (zNames l).length ≤ 100, .sl true ((zsh own (xs.map dStat)).map shD)⟩ | _ => none
/-- zone.Shares. -/
def zshC : Ctr := ⟨23, zshS, by
  intro vs o ho hp
  unfold zshS at ho
  split at ho
  · rename_i own f xs
    injection ho with ho; subst ho
    obtain ⟨l, rfl, h1, h2⟩ := hp
    simp only [map_dStat]
    refine dataFunL (C := zshCfg f own l) (ctrsR_ok zshC0 [ctC] rfl rfl rfl rfl) rfl Try.func23 (by kernel_rfl) (l := [lp Try.f23 10, lp Try.f23 23]) (by kernel_rfl) ?_ (by kernel_rfl) (by kernel_rfl) (by kernel_rfl) (zshN f own l h1 h2)
    intro x hx
    simp only [List.mem_cons, List.not_mem_nil, or_false] at hx
    rcases hx with rfl | rfl
    · exact (zA f l _ _ _ _).fits 10 [(0, true), (1, true), (2, true)] (by kernel_rfl) rfl fun s hs => zAR f l _ _ _ _ s hs
    · exact (zB _ _ _ _).fits 23 [(1, true)] (by kernel_rfl) rfl fun s hs => zBR _ _ _ _ s hs
  · cases ho⟩
end Go.Proofs.Ytgibpomhiilehaa.Dv
