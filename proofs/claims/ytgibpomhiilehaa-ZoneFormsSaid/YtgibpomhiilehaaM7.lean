/- slices.DeleteFunc of states, with zone.In's closure; zone.In. -/
import Derived.Test.YtgibpomhiilehaaM6
set_option linter.unusedVariables false
set_option linter.unusedSimpArgs false
namespace Go.Proofs.Ytgibpomhiilehaa.Dv
open Go Go.Proofs
def zStat : Stat := ⟨0, .empty, 0, .empty, 0, true, [], false, 0, 0, 0, 0, 0, 0, false, 0, 0, 0, false, 0, 0, 0⟩
def keptZ (nm : ByteArray) (all : List Stat) : List Stat := all.filter fun t => !decide (t.zone ≠ nm)
def dfOut (nm : ByteArray) (all : List Stat) : List Stat := keptZ nm all ++ List.replicate (all.length - (keptZ nm all).length) zStat
theorem ix_split (nm : ByteArray) : ∀ (all : List Stat) (i : Nat), (ixM nm all i = -1 ∧ keptZ nm all = all) ∨ ∃ a x r, all = a ++ x :: r ∧ keptZ nm a = a ∧ x.zone ≠ nm ∧ ixM nm all i = ((i + a.length : Nat) : Int)
  | [], i => .inl ⟨rfl, rfl⟩
  | t :: r, i => by
    by_cases h : t.zone = nm
    · have e : ∀ l, keptZ nm (t :: l) = t :: keptZ nm l := fun l => by unfold keptZ; rw [List.filter_cons_of_pos (by simp [h])]
      have e2 : ixM nm (t :: r) i = ixM nm r (i + 1) := by rw [ixM]; exact if_neg (fun g => g h)
      rcases ix_split nm r (i + 1) with ⟨h1, h2⟩ | ⟨a, x, r', h1, h2, h3, h4⟩
      · exact .inl ⟨e2.trans h1, by rw [e, h2]⟩
      · refine .inr ⟨t :: a, x, r', by rw [h1]; rfl, by rw [e, h2], h3, ?_⟩
        rw [e2, h4, List.length_cons]
        congr 1
        omega
    · exact .inr ⟨[], t, r, rfl, rfl, h, by rw [ixM, if_pos h]; simp⟩
theorem zStatD (n : Nat) : List.replicate n (statD zStat) = (List.replicate n zStat).map statD := (List.map_replicate ..).symm
noncomputable def dfCfg (nm : ByteArray) (N : Nat) : WCfg := { zCfg 2 [] [zinC, ixC] [(9, .n)] with loops := fun k => match k with | 5 => some ((dfL nm N).row [(0, true), (1, true)]) | _ => none }
theorem dfN (nm : ByteArray) (all : List Stat) (h : all.length ≤ 1000) : (((0 : Nat) = (1 : Nat) → False) ∧ all.length = (List.map statD all).length ∧ all.length = all.length ∧ all.length ≤ (1000 : Nat) ∧ ∃ (l : List Stat), List.map statD all = List.map statD l) ∧ (decide (ixM nm (List.map dStat (List.map statD all)) (0 : Nat) = (-1 : Int)) = true → D.ms (0 : Nat) (0 : Nat) (keptZ nm all).length all.length false = D.ms (0 : Nat) (0 : Nat) all.length all.length false ∧ (some (Ob.row St.own (21 : Nat) (List.map statD (dfOut nm all))) = none ∨ some (Ob.row St.own (21 : Nat) (List.map statD (dfOut nm all))) = some (Ob.row St.own (21 : Nat) (List.map statD all)) ∧ (List.map statD all).all D.pure = true) ∧ (some (Ob.row St.own (1 : Nat) [D.str nm]) = none ∨ some (Ob.row St.own (1 : Nat) [D.str nm]) = some (Ob.row St.own (1 : Nat) [D.str nm]) ∧ true = true)) ∧ (decide (ixM nm (List.map dStat (List.map statD all)) (0 : Nat) = (-1 : Int)) = false → inK IntKind.i64 (ixM nm (List.map dStat (List.map statD all)) (0 : Nat) + (1 : Int)) ∧ ∃ (b : List Stat × List Stat × List Stat), ((b.fst ++ b.snd.fst ++ b.snd.snd).length = all.length ∧ all.length ≤ (1000 : Nat) ∧ (b.snd.fst = [] → False)) ∧ ((D.ms (0 : Nat) (0 : Nat) all.length all.length false = D.ms (0 : Nat) (0 : Nat) all.length all.length false ∧ D.fn (56 : Nat) [] [D.ptr (1 : Nat) (0 : Nat) (0 : Nat)] = D.fn (56 : Nat) [] [D.ptr (1 : Nat) (0 : Nat) (0 : Nat)] ∧ D.int IntKind.i64 (↑b.fst.length : Int) = D.int IntKind.i64 (ixM nm (List.map dStat (List.map statD all)) (0 : Nat)) ∧ D.int IntKind.i64 (↑(b.fst.length + b.snd.fst.length) : Int) = D.int IntKind.i64 (ixM nm (List.map dStat (List.map statD all)) (0 : Nat) + (1 : Int))) ∧ (some (Ob.row St.own (21 : Nat) (List.map statD (b.fst ++ b.snd.fst ++ b.snd.snd))) = none ∨ some (Ob.row St.own (21 : Nat) (List.map statD (b.fst ++ b.snd.fst ++ b.snd.snd))) = some (Ob.row St.own (21 : Nat) (List.map statD all)) ∧ (List.map statD all).all D.pure = true) ∧ (some (Ob.row St.own (1 : Nat) [D.str nm]) = none ∨ some (Ob.row St.own (1 : Nat) [D.str nm]) = some (Ob.row St.own (1 : Nat) [D.str nm]) ∧ true = true)) ∧ ∀ (a : List Stat × List Stat), b.fst ++ List.filter (fun (t : Stat) => !decide (t.zone ≠ nm)) b.snd.snd = a.fst ∧ (a.fst ++ a.snd).length = all.length → (0 : Int) ≤ (↑a.fst.length : Int) ∧ (↑a.fst.length : Int).toNat ≤ all.length ∧ all.length ≤ all.length ∧ (0 : Nat) + (↑a.fst.length : Int).toNat + (all.length - (↑a.fst.length : Int).toNat) ≤ (List.map statD (a.fst ++ a.snd)).length ∧ (0 : Int) ≤ (↑a.fst.length : Int) ∧ (0 : Nat) ≤ (↑a.fst.length : Int).toNat ∧ (↑a.fst.length : Int).toNat ≤ all.length ∧ D.ms (0 : Nat) (0 : Nat) (keptZ nm all).length all.length false = D.ms (0 : Nat) (0 : Nat) ((↑a.fst.length : Int).toNat - (0 : Nat)) (all.length - (0 : Nat)) false ∧ (some (Ob.row St.own (21 : Nat) (List.map statD (dfOut nm all))) = none ∨ some (Ob.row St.own (21 : Nat) (List.map statD (dfOut nm all))) = some (Ob.row St.own (21 : Nat) (List.take ((0 : Nat) + (↑a.fst.length : Int).toNat) (List.map statD (a.fst ++ a.snd)) ++ List.replicate (all.length - (↑a.fst.length : Int).toNat) (D.agg [D.int IntKind.i64 (0 : Int), D.str (ByteArray.mk #[]), D.int IntKind.i64 (0 : Int), D.str (ByteArray.mk #[]), D.int IntKind.i64 (0 : Int), D.sl true [], D.bool false, D.int IntKind.i64 (0 : Int), D.int IntKind.i64 (0 : Int), D.int IntKind.i64 (0 : Int), D.int IntKind.i64 (0 : Int), D.int IntKind.i64 (0 : Int), D.int IntKind.i64 (0 : Int), D.bool false, D.int IntKind.i64 (0 : Int), D.int IntKind.i64 (0 : Int), D.int IntKind.i64 (0 : Int), D.bool false, D.int IntKind.i64 (0 : Int), D.int IntKind.i64 (0 : Int), D.int IntKind.i64 (0 : Int)]) ++ List.drop ((0 : Nat) + (↑a.fst.length : Int).toNat + (all.length - (↑a.fst.length : Int).toNat)) (List.map statD (a.fst ++ a.snd)))) ∧ (List.take ((0 : Nat) + (↑a.fst.length : Int).toNat) (List.map statD (a.fst ++ a.snd)) ++ List.replicate (all.length - (↑a.fst.length : Int).toNat) (D.agg [D.int IntKind.i64 (0 : Int), D.str (ByteArray.mk #[]), D.int IntKind.i64 (0 : Int), D.str (ByteArray.mk #[]), D.int IntKind.i64 (0 : Int), D.sl true [], D.bool false, D.int IntKind.i64 (0 : Int), D.int IntKind.i64 (0 : Int), D.int IntKind.i64 (0 : Int), D.int IntKind.i64 (0 : Int), D.int IntKind.i64 (0 : Int), D.int IntKind.i64 (0 : Int), D.bool false, D.int IntKind.i64 (0 : Int), D.int IntKind.i64 (0 : Int), D.int IntKind.i64 (0 : Int), D.bool false, D.int IntKind.i64 (0 : Int), D.int IntKind.i64 (0 : Int), D.int IntKind.i64 (0 : Int)]) ++ List.drop ((0 : Nat) + (↑a.fst.length : Int).toNat + (all.length - (↑a.fst.length : Int).toNat)) (List.map statD (a.fst ++ a.snd))).all D.pure = true) ∧ (some (Ob.row St.own (1 : Nat) [D.str nm]) = none ∨ some (Ob.row St.own (1 : Nat) [D.str nm]) = some (Ob.row St.own (1 : Nat) [D.str nm]) ∧ true = true)) := by
  rw [map_dStat]
  rcases ix_split nm all 0 with ⟨h1, h2⟩ | ⟨a, x, r, rfl, h2, h3, h4⟩
  · rw [h1]
    have hd : dfOut nm all = all := by unfold dfOut; rw [h2]; simp
    exact ⟨⟨by omega, by simp, rfl, h, all, rfl⟩, fun _ => ⟨by rw [h2], .inr ⟨by rw [hd], pure_statD _⟩, .inr ⟨rfl, rfl⟩⟩, fun h => by simp at h⟩
  · rw [h4, Nat.zero_add]
    have hl : a.length + (r.length + 1) ≤ 1000 := by simpa using h
    refine ⟨⟨by omega, by simp, rfl, h, _, rfl⟩, fun h => by have := of_decide_eq_true h; omega, fun _ => ⟨by simp only [inK]; omega, (a, [x], r), ⟨by simp, h, by simp⟩, ⟨?_, .inr ⟨by simp, pure_statD _⟩, .inr ⟨rfl, rfl⟩⟩, fun b hb => ?_⟩⟩
    · repeat' apply And.intro
      all_goals first
        | rfl
        | (simp; done)
    obtain ⟨k, g⟩ := b
    obtain ⟨hb1, hb2⟩ := hb
    simp only at hb1 hb2 ⊢
    have hk : keptZ nm (a ++ x :: r) = k := by
      rw [← hb1]
      unfold keptZ at h2 ⊢
      rw [List.filter_append, h2, List.filter_cons_of_neg (by simpa using h3)]
    have hkg : k.length + g.length = a.length + (r.length + 1) := by simpa using hb2
    have hal : (a ++ x :: r).length = a.length + (r.length + 1) := by simp
    have hz : D.agg [D.int .i64 0, D.str (ByteArray.mk #[]), D.int .i64 0, D.str (ByteArray.mk #[]), D.int .i64 0, D.sl true [], D.bool false, D.int .i64 0, D.int .i64 0, D.int .i64 0, D.int .i64 0, D.int .i64 0, D.int .i64 0, D.bool false, D.int .i64 0, D.int .i64 0, D.int .i64 0, D.bool false, D.int .i64 0, D.int .i64 0, D.int .i64 0] = statD zStat := rfl
    have hrow : List.take (0 + ((k.length : Int)).toNat) (List.map statD (k ++ g)) ++ List.replicate ((a ++ x :: r).length - ((k.length : Int)).toNat) (statD zStat) ++ List.drop (0 + ((k.length : Int)).toNat + ((a ++ x :: r).length - ((k.length : Int)).toNat)) (List.map statD (k ++ g)) = List.map statD (dfOut nm (a ++ x :: r)) := by
      rw [Int.toNat_natCast, Nat.zero_add]
      unfold dfOut
      rw [hk, List.map_append, List.map_append, List.take_left' (List.length_map ..), List.map_replicate, List.drop_eq_nil_of_le (by simp; omega), List.append_nil]
    rw [hz, hrow, hk, Int.toNat_natCast]
    refine ⟨by omega, by omega, Nat.le_refl _, by rw [List.length_map, hb2]; omega, by omega, by omega, by omega, by simp, .inr ⟨by trivial, pure_statD _⟩, .inr ⟨by trivial, by trivial⟩⟩
end Go.Proofs.Ytgibpomhiilehaa.Dv
