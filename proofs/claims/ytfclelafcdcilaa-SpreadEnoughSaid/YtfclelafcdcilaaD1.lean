/- A configuration: what it is, and which may be. -/
import Derived.Test.YtfclelafcdcilaaA4
set_option linter.unusedVariables false
set_option linter.unusedSimpArgs false
namespace Go.Proofs.Ytfclelafcdcilaa.Dv
open Go Go.Proofs
structure Cfg where
  interval : Int
  timeout : Int
  jitter : Int
  rise : Int
  fall : Int
  panic : Int
  over : Int
  errors : Int
  sweep : Int
  hosts : Int
  requests : Int
  factor : Int
  fails : Int
  base : Int
  eject : Int
  one : Bool
  slow : Int
  drain : Int
  hostLimit : Int
  poolLimit : Int
  policy : Int
  zone : ByteArray
  fallback : Bool
def Cfg.toD (c : Cfg) : D := .agg [.int .i64 c.interval, .int .i64 c.timeout, .int .i64 c.jitter, .int .i64 c.rise, .int .i64 c.fall, .int .i64 c.panic, .int .i64 c.over, .int .i64 c.errors, .int .i64 c.sweep, .int .i64 c.hosts, .int .i64 c.requests, .int .i64 c.factor, .int .i64 c.fails, .int .i64 c.base, .int .i64 c.eject, .bool c.one, .int .i64 c.slow, .int .i64 c.drain, .int .i64 c.hostLimit, .int .i64 c.poolLimit, .int .i64 c.policy, .str c.zone, .bool c.fallback]
def dCfg : D → Cfg
  | .agg [.int _ v0, .int _ v1, .int _ v2, .int _ v3, .int _ v4, .int _ v5, .int _ v6, .int _ v7, .int _ v8, .int _ v9, .int _ v10, .int _ v11, .int _ v12, .int _ v13, .int _ v14, .bool v15, .int _ v16, .int _ v17, .int _ v18, .int _ v19, .int _ v20, .str v21, .bool v22] => ⟨v0, v1, v2, v3, v4, v5, v6, v7, v8, v9, v10, v11, v12, v13, v14, v15, v16, v17, v18, v19, v20, v21, v22⟩
  | _ => ⟨0, 0, 0, 0, 0, 0, 0, 0, 0, 0, 0, 0, 0, 0, 0, false, 0, 0, 0, 0, 0, .empty, false⟩
theorem dCfg_toD (c : Cfg) : dCfg c.toD = c := rfl
def Cfg.nums (c : Cfg) : Prop := 10 ≤ c.interval ∧ c.interval ≤ 10000 ∧ 1 ≤ c.timeout ∧ c.timeout ≤ 10000 ∧ 0 ≤ c.jitter ∧ c.jitter ≤ 1000 ∧ 1 ≤ c.rise ∧ c.rise ≤ 10 ∧ 1 ≤ c.fall ∧ c.fall ≤ 10 ∧ 0 ≤ c.panic ∧ c.panic ≤ 100 ∧ 100 ≤ c.over ∧ c.over ≤ 1000 ∧ 0 ≤ c.errors ∧ c.errors ≤ 100 ∧ 10 ≤ c.sweep ∧ c.sweep ≤ 10000 ∧ 1 ≤ c.hosts ∧ c.hosts ≤ 64 ∧ 1 ≤ c.requests ∧ c.requests ≤ 1000 ∧ 0 ≤ c.factor ∧ c.factor ≤ 10000 ∧ 0 ≤ c.fails ∧ c.fails ≤ 100 ∧ 1 ≤ c.base ∧ c.base ≤ 10000 ∧ 0 ≤ c.eject ∧ c.eject ≤ 100 ∧ 0 ≤ c.slow ∧ c.slow ≤ 10000 ∧ 1 ≤ c.drain ∧ c.drain ≤ 10000 ∧ 1 ≤ c.hostLimit ∧ c.hostLimit ≤ 1000 ∧ 1 ≤ c.poolLimit ∧ c.poolLimit ≤ 10000 ∧ 1 ≤ c.policy ∧ c.policy ≤ 3
instance (c : Cfg) : Decidable c.nums := by unfold Cfg.nums; infer_instance
def Cfg.rI (c : Cfg) : Prop := Dv.rI c.interval ∧ Dv.rI c.timeout ∧ Dv.rI c.jitter ∧ Dv.rI c.rise ∧ Dv.rI c.fall ∧ Dv.rI c.panic ∧ Dv.rI c.over ∧ Dv.rI c.errors ∧ Dv.rI c.sweep ∧ Dv.rI c.hosts ∧ Dv.rI c.requests ∧ Dv.rI c.factor ∧ Dv.rI c.fails ∧ Dv.rI c.base ∧ Dv.rI c.eject ∧ Dv.rI c.slow ∧ Dv.rI c.drain ∧ Dv.rI c.hostLimit ∧ Dv.rI c.poolLimit ∧ Dv.rI c.policy
def cfgDef : Cfg := ⟨100, 20, 0, 2, 3, 50, 140, 5, 1000, 5, 100, 1900, 0, 3000, 10, true, 0, 5000, 1000, 10000, 1, .empty, false⟩
def okCh (b : UInt8) : Bool := decide ((97 ≤ b.toNat ∧ b.toNat ≤ 122) ∨ (48 ≤ b.toNat ∧ b.toNat ≤ 57) ∨ b.toNat = 45 ∨ b.toNat = 46)
def bs (s : ByteArray) : List UInt8 := s.data.toList
def dash : ByteArray := ⟨#[45]⟩
def nameB (s : ByteArray) : Bool := (bs s).all okCh && decide (1 ≤ s.size ∧ s.size ≤ 12 ∧ s ≠ dash)
def mayCfg (c : Cfg) : Bool := decide (c.nums ∧ (c.zone = .empty ∨ nameB c.zone = true))
theorem bs_len (s : ByteArray) : (bs s).length = s.size := rfl
theorem bs_get (s : ByteArray) (i : Nat) : s[i]? = (bs s)[i]? := by
  unfold bs
  rw [Array.getElem?_toList]
  by_cases h : i < s.size
  · rw [getElem?_pos s i h, getElem?_pos s.data i h]; rfl
  · rw [getElem?_neg s i h, getElem?_neg s.data i h]
def nameL (s : ByteArray) : WLoop := { St := Nat, O := Bool, T := fun i => [(0, .str s), (6, .int .i64 s.size), (7, .int .i64 i)], ok := fun i => i ≤ s.size ∧ s.size ≤ 9223372036854775807, μ := fun i => s.size - i, m := fun i => ((bs s).drop i).all okCh
                                       outs := [{ α := Unit, is := fun o _ => o = true, ex := .exit 0, T := fun _ => [(0, .str s)] }, { α := Unit, is := fun o _ => o = false, ex := .ret, T := fun _ => [(2, .bool false)] }] }
def wordL (s : ByteArray) : WLoop := { St := Nat, O := Bool, T := fun i => [(0, .str s), (18, .int .i64 s.size), (19, .int .i64 i)], ok := fun i => i ≤ s.size ∧ s.size ≤ 9223372036854775807, μ := fun i => s.size - i, m := fun i => ((bs s).drop i).all okCh
                                       outs := [{ α := Unit, is := fun o _ => o = true, ex := .exit 0, T := fun _ => [] }, { α := Unit, is := fun o _ => o = false, ex := .ret, T := fun _ => [(2, .bool false)] }] }
theorem drop_all {s : ByteArray} {i : Nat} {b : UInt8} (h : (bs s)[i]? = some b) : ((bs s).drop i).all okCh = (okCh b && ((bs s).drop (i + 1)).all okCh) := by
  obtain ⟨h1, h2⟩ := List.getElem?_eq_some_iff.1 h
  rw [List.drop_eq_getElem_cons h1, h2]; rfl
theorem nameR (s : ByteArray) (i : Nat) (hi : (nameL s).ok i) : Tri Try.prog 0 48 (lp Try.f51 2) (tb ((nameL s).T i)) ((nameL s).S i) ((nameL s).q 0 i) := by
  obtain ⟨h1, h2⟩ := hi
  rcases Nat.lt_or_ge i s.size with h | h
  · refine round0 (C := cfgH [] [(8, .t)]) (ctrs_ok [] rfl rfl) (by kernel_rfl) (by kernel_rfl) (q := decide ((↑i : Int) < (↑s.size : Int)) = true ∧ ∃ (b : UInt8), (0 : Int) ≤ (↑i : Int) ∧ s[(↑i : Int).toNat]? = some b ∧ (decide ((↑b.toNat : Int) < (97 : Int)) = true → (decide ((↑b.toNat : Int) < (48 : Int)) = true → (decide ((↑b.toNat : Int) ≠ (45 : Int)) = true → (decide ((↑b.toNat : Int) ≠ (46 : Int)) = true → ∃ (a : Unit), (List.drop i (bs s)).all okCh = false ∧ D.bool false = D.bool false) ∧ (decide ((↑b.toNat : Int) ≠ (46 : Int)) = false → inK IntKind.i64 ((↑i : Int) + (1 : Int)) ∧ ∃ (s' : Nat), (s' ≤ s.size ∧ s.size ≤ (9223372036854775807 : Nat)) ∧ (s.size - s').succ ≤ s.size - i ∧ (List.drop s' (bs s)).all okCh = (List.drop i (bs s)).all okCh ∧ D.str s = D.str s ∧ D.int IntKind.i64 (↑s.size : Int) = D.int IntKind.i64 (↑s.size : Int) ∧ D.int IntKind.i64 (↑s' : Int) = D.int IntKind.i64 ((↑i : Int) + (1 : Int)))) ∧ (decide ((↑b.toNat : Int) ≠ (45 : Int)) = false → inK IntKind.i64 ((↑i : Int) + (1 : Int)) ∧ ∃ (s' : Nat), (s' ≤ s.size ∧ s.size ≤ (9223372036854775807 : Nat)) ∧ (s.size - s').succ ≤ s.size - i ∧ (List.drop s' (bs s)).all okCh = (List.drop i (bs s)).all okCh ∧ D.str s = D.str s ∧ D.int IntKind.i64 (↑s.size : Int) = D.int IntKind.i64 (↑s.size : Int) ∧ D.int IntKind.i64 (↑s' : Int) = D.int IntKind.i64 ((↑i : Int) + (1 : Int)))) ∧ (decide ((↑b.toNat : Int) < (48 : Int)) = false → (decide ((57 : Int) < (↑b.toNat : Int)) = true → (decide ((↑b.toNat : Int) ≠ (45 : Int)) = true → (decide ((↑b.toNat : Int) ≠ (46 : Int)) = true → ∃ (a : Unit), (List.drop i (bs s)).all okCh = false ∧ D.bool false = D.bool false) ∧ (decide ((↑b.toNat : Int) ≠ (46 : Int)) = false → inK IntKind.i64 ((↑i : Int) + (1 : Int)) ∧ ∃ (s' : Nat), (s' ≤ s.size ∧ s.size ≤ (9223372036854775807 : Nat)) ∧ (s.size - s').succ ≤ s.size - i ∧ (List.drop s' (bs s)).all okCh = (List.drop i (bs s)).all okCh ∧ D.str s = D.str s ∧ D.int IntKind.i64 (↑s.size : Int) = D.int IntKind.i64 (↑s.size : Int) ∧ D.int IntKind.i64 (↑s' : Int) = D.int IntKind.i64 ((↑i : Int) + (1 : Int)))) ∧ (decide ((↑b.toNat : Int) ≠ (45 : Int)) = false → inK IntKind.i64 ((↑i : Int) + (1 : Int)) ∧ ∃ (s' : Nat), (s' ≤ s.size ∧ s.size ≤ (9223372036854775807 : Nat)) ∧ (s.size - s').succ ≤ s.size - i ∧ (List.drop s' (bs s)).all okCh = (List.drop i (bs s)).all okCh ∧ D.str s = D.str s ∧ D.int IntKind.i64 (↑s.size : Int) = D.int IntKind.i64 (↑s.size : Int) ∧ D.int IntKind.i64 (↑s' : Int) = D.int IntKind.i64 ((↑i : Int) + (1 : Int)))) ∧ (decide ((57 : Int) < (↑b.toNat : Int)) = false → inK IntKind.i64 ((↑i : Int) + (1 : Int)) ∧ ∃ (s' : Nat), (s' ≤ s.size ∧ s.size ≤ (9223372036854775807 : Nat)) ∧ (s.size - s').succ ≤ s.size - i ∧ (List.drop s' (bs s)).all okCh = (List.drop i (bs s)).all okCh ∧ D.str s = D.str s ∧ D.int IntKind.i64 (↑s.size : Int) = D.int IntKind.i64 (↑s.size : Int) ∧ D.int IntKind.i64 (↑s' : Int) = D.int IntKind.i64 ((↑i : Int) + (1 : Int))))) ∧ (decide ((↑b.toNat : Int) < (97 : Int)) = false → (decide ((122 : Int) < (↑b.toNat : Int)) = true → (decide ((↑b.toNat : Int) < (48 : Int)) = true → (decide ((↑b.toNat : Int) ≠ (45 : Int)) = true → (decide ((↑b.toNat : Int) ≠ (46 : Int)) = true → ∃ (a : Unit), (List.drop i (bs s)).all okCh = false ∧ D.bool false = D.bool false) ∧ (decide ((↑b.toNat : Int) ≠ (46 : Int)) = false → inK IntKind.i64 ((↑i : Int) + (1 : Int)) ∧ ∃ (s' : Nat), (s' ≤ s.size ∧ s.size ≤ (9223372036854775807 : Nat)) ∧ (s.size - s').succ ≤ s.size - i ∧ (List.drop s' (bs s)).all okCh = (List.drop i (bs s)).all okCh ∧ D.str s = D.str s ∧ D.int IntKind.i64 (↑s.size : Int) = D.int IntKind.i64 (↑s.size : Int) ∧ D.int IntKind.i64 (↑s' : Int) = D.int IntKind.i64 ((↑i : Int) + (1 : Int)))) ∧ (decide ((↑b.toNat : Int) ≠ (45 : Int)) = false → inK IntKind.i64 ((↑i : Int) + (1 : Int)) ∧ ∃ (s' : Nat), (s' ≤ s.size ∧ s.size ≤ (9223372036854775807 : Nat)) ∧ (s.size - s').succ ≤ s.size - i ∧ (List.drop s' (bs s)).all okCh = (List.drop i (bs s)).all okCh ∧ D.str s = D.str s ∧ D.int IntKind.i64 (↑s.size : Int) = D.int IntKind.i64 (↑s.size : Int) ∧ D.int IntKind.i64 (↑s' : Int) = D.int IntKind.i64 ((↑i : Int) + (1 : Int)))) ∧ (decide ((↑b.toNat : Int) < (48 : Int)) = false → (decide ((57 : Int) < (↑b.toNat : Int)) = true → (decide ((↑b.toNat : Int) ≠ (45 : Int)) = true → (decide ((↑b.toNat : Int) ≠ (46 : Int)) = true → ∃ (a : Unit), (List.drop i (bs s)).all okCh = false ∧ D.bool false = D.bool false) ∧ (decide ((↑b.toNat : Int) ≠ (46 : Int)) = false → inK IntKind.i64 ((↑i : Int) + (1 : Int)) ∧ ∃ (s' : Nat), (s' ≤ s.size ∧ s.size ≤ (9223372036854775807 : Nat)) ∧ (s.size - s').succ ≤ s.size - i ∧ (List.drop s' (bs s)).all okCh = (List.drop i (bs s)).all okCh ∧ D.str s = D.str s ∧ D.int IntKind.i64 (↑s.size : Int) = D.int IntKind.i64 (↑s.size : Int) ∧ D.int IntKind.i64 (↑s' : Int) = D.int IntKind.i64 ((↑i : Int) + (1 : Int)))) ∧ (decide ((↑b.toNat : Int) ≠ (45 : Int)) = false → inK IntKind.i64 ((↑i : Int) + (1 : Int)) ∧ ∃ (s' : Nat), (s' ≤ s.size ∧ s.size ≤ (9223372036854775807 : Nat)) ∧ (s.size - s').succ ≤ s.size - i ∧ (List.drop s' (bs s)).all okCh = (List.drop i (bs s)).all okCh ∧ D.str s = D.str s ∧ D.int IntKind.i64 (↑s.size : Int) = D.int IntKind.i64 (↑s.size : Int) ∧ D.int IntKind.i64 (↑s' : Int) = D.int IntKind.i64 ((↑i : Int) + (1 : Int)))) ∧ (decide ((57 : Int) < (↑b.toNat : Int)) = false → inK IntKind.i64 ((↑i : Int) + (1 : Int)) ∧ ∃ (s' : Nat), (s' ≤ s.size ∧ s.size ≤ (9223372036854775807 : Nat)) ∧ (s.size - s').succ ≤ s.size - i ∧ (List.drop s' (bs s)).all okCh = (List.drop i (bs s)).all okCh ∧ D.str s = D.str s ∧ D.int IntKind.i64 (↑s.size : Int) = D.int IntKind.i64 (↑s.size : Int) ∧ D.int IntKind.i64 (↑s' : Int) = D.int IntKind.i64 ((↑i : Int) + (1 : Int))))) ∧ (decide ((122 : Int) < (↑b.toNat : Int)) = false → inK IntKind.i64 ((↑i : Int) + (1 : Int)) ∧ ∃ (s' : Nat), (s' ≤ s.size ∧ s.size ≤ (9223372036854775807 : Nat)) ∧ (s.size - s').succ ≤ s.size - i ∧ (List.drop s' (bs s)).all okCh = (List.drop i (bs s)).all okCh ∧ D.str s = D.str s ∧ D.int IntKind.i64 (↑s.size : Int) = D.int IntKind.i64 (↑s.size : Int) ∧ D.int IntKind.i64 (↑s' : Int) = D.int IntKind.i64 ((↑i : Int) + (1 : Int))))) (by kernel_rfl) ?_
    obtain ⟨b, hb⟩ : ∃ b, (bs s)[i]? = some b := ⟨_, List.getElem?_eq_getElem (by rw [bs_len]; exact h)⟩
    have hm := drop_all hb
    refine ⟨by simpa using h, b, by omega, by rw [Int.toNat_natCast, bs_get]; exact hb, ?_⟩
    rw [hm]
    have go : okCh b = true → ∃ s' : Nat, (s' ≤ s.size ∧ s.size ≤ 9223372036854775807) ∧ (s.size - s').succ ≤ s.size - i ∧ ((bs s).drop s').all okCh = (okCh b && ((bs s).drop (i + 1)).all okCh) ∧ True ∧ True ∧ D.int .i64 (s' : Int) = D.int .i64 ((i : Int) + 1) := by
      intro ho
      exact ⟨i + 1, ⟨by omega, h2⟩, by omega, by rw [ho, Bool.true_and], trivial, trivial, by simp⟩
    simp only [decide_eq_true_eq, decide_eq_false_iff_not, inK]
    have hb' := b.toNat_lt
    have ocT : ((97 ≤ b.toNat ∧ b.toNat ≤ 122) ∨ (48 ≤ b.toNat ∧ b.toNat ≤ 57) ∨ b.toNat = 45 ∨ b.toNat = 46) → okCh b = true := fun h => decide_eq_true h
    have ocF : ¬((97 ≤ b.toNat ∧ b.toNat ≤ 122) ∨ (48 ≤ b.toNat ∧ b.toNat ≤ 57) ∨ b.toNat = 45 ∨ b.toNat = 46) → okCh b = false := fun h => decide_eq_false h
    repeat' (first | (intro _) | (apply And.intro))
    all_goals first
      | omega
      | exact go (ocT (by omega))
      | exact ⟨(), by rw [ocF (by omega)]; rfl, trivial⟩
  · refine round0 (C := cfgH [] [(8, .f)]) (ctrs_ok [] rfl rfl) (by kernel_rfl) (by kernel_rfl) (q := decide ((↑i : Int) < (↑s.size : Int)) = false ∧ ∃ (a : Unit), (List.drop i (bs s)).all okCh = true ∧ D.str s = D.str s) (by kernel_rfl) ?_
    exact ⟨by simpa using h, (), by rw [List.drop_of_length_le (by rw [bs_len]; exact h)]; rfl, rfl⟩
theorem wordR (s : ByteArray) (i : Nat) (hi : (wordL s).ok i) : Tri Try.prog 0 48 (lp Try.f37 4) (tb ((wordL s).T i)) ((wordL s).S i) ((wordL s).q 0 i) := by
  obtain ⟨h1, h2⟩ := hi
  rcases Nat.lt_or_ge i s.size with h | h
  · refine round0 (C := cfgH [] [(20, .t)]) (ctrs_ok [] rfl rfl) (by kernel_rfl) (by kernel_rfl) (q := decide ((↑i : Int) < (↑s.size : Int)) = true ∧ ∃ (b : UInt8), (0 : Int) ≤ (↑i : Int) ∧ s[(↑i : Int).toNat]? = some b ∧ (decide ((↑b.toNat : Int) < (97 : Int)) = true → (decide ((↑b.toNat : Int) < (48 : Int)) = true → (decide ((↑b.toNat : Int) ≠ (45 : Int)) = true → (decide ((↑b.toNat : Int) ≠ (46 : Int)) = true → ∃ (a : Unit), (List.drop i (bs s)).all okCh = false ∧ D.bool false = D.bool false) ∧ (decide ((↑b.toNat : Int) ≠ (46 : Int)) = false → inK IntKind.i64 ((↑i : Int) + (1 : Int)) ∧ ∃ (s' : Nat), (s' ≤ s.size ∧ s.size ≤ (9223372036854775807 : Nat)) ∧ (s.size - s').succ ≤ s.size - i ∧ (List.drop s' (bs s)).all okCh = (List.drop i (bs s)).all okCh ∧ D.str s = D.str s ∧ D.int IntKind.i64 (↑s.size : Int) = D.int IntKind.i64 (↑s.size : Int) ∧ D.int IntKind.i64 (↑s' : Int) = D.int IntKind.i64 ((↑i : Int) + (1 : Int)))) ∧ (decide ((↑b.toNat : Int) ≠ (45 : Int)) = false → inK IntKind.i64 ((↑i : Int) + (1 : Int)) ∧ ∃ (s' : Nat), (s' ≤ s.size ∧ s.size ≤ (9223372036854775807 : Nat)) ∧ (s.size - s').succ ≤ s.size - i ∧ (List.drop s' (bs s)).all okCh = (List.drop i (bs s)).all okCh ∧ D.str s = D.str s ∧ D.int IntKind.i64 (↑s.size : Int) = D.int IntKind.i64 (↑s.size : Int) ∧ D.int IntKind.i64 (↑s' : Int) = D.int IntKind.i64 ((↑i : Int) + (1 : Int)))) ∧ (decide ((↑b.toNat : Int) < (48 : Int)) = false → (decide ((57 : Int) < (↑b.toNat : Int)) = true → (decide ((↑b.toNat : Int) ≠ (45 : Int)) = true → (decide ((↑b.toNat : Int) ≠ (46 : Int)) = true → ∃ (a : Unit), (List.drop i (bs s)).all okCh = false ∧ D.bool false = D.bool false) ∧ (decide ((↑b.toNat : Int) ≠ (46 : Int)) = false → inK IntKind.i64 ((↑i : Int) + (1 : Int)) ∧ ∃ (s' : Nat), (s' ≤ s.size ∧ s.size ≤ (9223372036854775807 : Nat)) ∧ (s.size - s').succ ≤ s.size - i ∧ (List.drop s' (bs s)).all okCh = (List.drop i (bs s)).all okCh ∧ D.str s = D.str s ∧ D.int IntKind.i64 (↑s.size : Int) = D.int IntKind.i64 (↑s.size : Int) ∧ D.int IntKind.i64 (↑s' : Int) = D.int IntKind.i64 ((↑i : Int) + (1 : Int)))) ∧ (decide ((↑b.toNat : Int) ≠ (45 : Int)) = false → inK IntKind.i64 ((↑i : Int) + (1 : Int)) ∧ ∃ (s' : Nat), (s' ≤ s.size ∧ s.size ≤ (9223372036854775807 : Nat)) ∧ (s.size - s').succ ≤ s.size - i ∧ (List.drop s' (bs s)).all okCh = (List.drop i (bs s)).all okCh ∧ D.str s = D.str s ∧ D.int IntKind.i64 (↑s.size : Int) = D.int IntKind.i64 (↑s.size : Int) ∧ D.int IntKind.i64 (↑s' : Int) = D.int IntKind.i64 ((↑i : Int) + (1 : Int)))) ∧ (decide ((57 : Int) < (↑b.toNat : Int)) = false → inK IntKind.i64 ((↑i : Int) + (1 : Int)) ∧ ∃ (s' : Nat), (s' ≤ s.size ∧ s.size ≤ (9223372036854775807 : Nat)) ∧ (s.size - s').succ ≤ s.size - i ∧ (List.drop s' (bs s)).all okCh = (List.drop i (bs s)).all okCh ∧ D.str s = D.str s ∧ D.int IntKind.i64 (↑s.size : Int) = D.int IntKind.i64 (↑s.size : Int) ∧ D.int IntKind.i64 (↑s' : Int) = D.int IntKind.i64 ((↑i : Int) + (1 : Int))))) ∧ (decide ((↑b.toNat : Int) < (97 : Int)) = false → (decide ((122 : Int) < (↑b.toNat : Int)) = true → (decide ((↑b.toNat : Int) < (48 : Int)) = true → (decide ((↑b.toNat : Int) ≠ (45 : Int)) = true → (decide ((↑b.toNat : Int) ≠ (46 : Int)) = true → ∃ (a : Unit), (List.drop i (bs s)).all okCh = false ∧ D.bool false = D.bool false) ∧ (decide ((↑b.toNat : Int) ≠ (46 : Int)) = false → inK IntKind.i64 ((↑i : Int) + (1 : Int)) ∧ ∃ (s' : Nat), (s' ≤ s.size ∧ s.size ≤ (9223372036854775807 : Nat)) ∧ (s.size - s').succ ≤ s.size - i ∧ (List.drop s' (bs s)).all okCh = (List.drop i (bs s)).all okCh ∧ D.str s = D.str s ∧ D.int IntKind.i64 (↑s.size : Int) = D.int IntKind.i64 (↑s.size : Int) ∧ D.int IntKind.i64 (↑s' : Int) = D.int IntKind.i64 ((↑i : Int) + (1 : Int)))) ∧ (decide ((↑b.toNat : Int) ≠ (45 : Int)) = false → inK IntKind.i64 ((↑i : Int) + (1 : Int)) ∧ ∃ (s' : Nat), (s' ≤ s.size ∧ s.size ≤ (9223372036854775807 : Nat)) ∧ (s.size - s').succ ≤ s.size - i ∧ (List.drop s' (bs s)).all okCh = (List.drop i (bs s)).all okCh ∧ D.str s = D.str s ∧ D.int IntKind.i64 (↑s.size : Int) = D.int IntKind.i64 (↑s.size : Int) ∧ D.int IntKind.i64 (↑s' : Int) = D.int IntKind.i64 ((↑i : Int) + (1 : Int)))) ∧ (decide ((↑b.toNat : Int) < (48 : Int)) = false → (decide ((57 : Int) < (↑b.toNat : Int)) = true → (decide ((↑b.toNat : Int) ≠ (45 : Int)) = true → (decide ((↑b.toNat : Int) ≠ (46 : Int)) = true → ∃ (a : Unit), (List.drop i (bs s)).all okCh = false ∧ D.bool false = D.bool false) ∧ (decide ((↑b.toNat : Int) ≠ (46 : Int)) = false → inK IntKind.i64 ((↑i : Int) + (1 : Int)) ∧ ∃ (s' : Nat), (s' ≤ s.size ∧ s.size ≤ (9223372036854775807 : Nat)) ∧ (s.size - s').succ ≤ s.size - i ∧ (List.drop s' (bs s)).all okCh = (List.drop i (bs s)).all okCh ∧ D.str s = D.str s ∧ D.int IntKind.i64 (↑s.size : Int) = D.int IntKind.i64 (↑s.size : Int) ∧ D.int IntKind.i64 (↑s' : Int) = D.int IntKind.i64 ((↑i : Int) + (1 : Int)))) ∧ (decide ((↑b.toNat : Int) ≠ (45 : Int)) = false → inK IntKind.i64 ((↑i : Int) + (1 : Int)) ∧ ∃ (s' : Nat), (s' ≤ s.size ∧ s.size ≤ (9223372036854775807 : Nat)) ∧ (s.size - s').succ ≤ s.size - i ∧ (List.drop s' (bs s)).all okCh = (List.drop i (bs s)).all okCh ∧ D.str s = D.str s ∧ D.int IntKind.i64 (↑s.size : Int) = D.int IntKind.i64 (↑s.size : Int) ∧ D.int IntKind.i64 (↑s' : Int) = D.int IntKind.i64 ((↑i : Int) + (1 : Int)))) ∧ (decide ((57 : Int) < (↑b.toNat : Int)) = false → inK IntKind.i64 ((↑i : Int) + (1 : Int)) ∧ ∃ (s' : Nat), (s' ≤ s.size ∧ s.size ≤ (9223372036854775807 : Nat)) ∧ (s.size - s').succ ≤ s.size - i ∧ (List.drop s' (bs s)).all okCh = (List.drop i (bs s)).all okCh ∧ D.str s = D.str s ∧ D.int IntKind.i64 (↑s.size : Int) = D.int IntKind.i64 (↑s.size : Int) ∧ D.int IntKind.i64 (↑s' : Int) = D.int IntKind.i64 ((↑i : Int) + (1 : Int))))) ∧ (decide ((122 : Int) < (↑b.toNat : Int)) = false → inK IntKind.i64 ((↑i : Int) + (1 : Int)) ∧ ∃ (s' : Nat), (s' ≤ s.size ∧ s.size ≤ (9223372036854775807 : Nat)) ∧ (s.size - s').succ ≤ s.size - i ∧ (List.drop s' (bs s)).all okCh = (List.drop i (bs s)).all okCh ∧ D.str s = D.str s ∧ D.int IntKind.i64 (↑s.size : Int) = D.int IntKind.i64 (↑s.size : Int) ∧ D.int IntKind.i64 (↑s' : Int) = D.int IntKind.i64 ((↑i : Int) + (1 : Int))))) (by kernel_rfl) ?_
    obtain ⟨b, hb⟩ : ∃ b, (bs s)[i]? = some b := ⟨_, List.getElem?_eq_getElem (by rw [bs_len]; exact h)⟩
    have hm := drop_all hb
    refine ⟨by simpa using h, b, by omega, by rw [Int.toNat_natCast, bs_get]; exact hb, ?_⟩
    rw [hm]
    have go : okCh b = true → ∃ s' : Nat, (s' ≤ s.size ∧ s.size ≤ 9223372036854775807) ∧ (s.size - s').succ ≤ s.size - i ∧ ((bs s).drop s').all okCh = (okCh b && ((bs s).drop (i + 1)).all okCh) ∧ True ∧ True ∧ D.int .i64 (s' : Int) = D.int .i64 ((i : Int) + 1) := by
      intro ho
      exact ⟨i + 1, ⟨by omega, h2⟩, by omega, by rw [ho, Bool.true_and], trivial, trivial, by simp⟩
    simp only [decide_eq_true_eq, decide_eq_false_iff_not, inK]
    have hb' := b.toNat_lt
    have ocT : ((97 ≤ b.toNat ∧ b.toNat ≤ 122) ∨ (48 ≤ b.toNat ∧ b.toNat ≤ 57) ∨ b.toNat = 45 ∨ b.toNat = 46) → okCh b = true := fun h => decide_eq_true h
    have ocF : ¬((97 ≤ b.toNat ∧ b.toNat ≤ 122) ∨ (48 ≤ b.toNat ∧ b.toNat ≤ 57) ∨ b.toNat = 45 ∨ b.toNat = 46) → okCh b = false := fun h => decide_eq_false h
    repeat' (first | (intro _) | (apply And.intro))
    all_goals first
      | omega
      | exact go (ocT (by omega))
      | exact ⟨(), by rw [ocF (by omega)]; rfl, trivial⟩
  · refine round0 (C := cfgH [] [(20, .f)]) (ctrs_ok [] rfl rfl) (by kernel_rfl) (by kernel_rfl) (q := decide ((↑i : Int) < (↑s.size : Int)) = false ∧ ∃ (a : Unit), (List.drop i (bs s)).all okCh = true ∧ True) (by kernel_rfl) ?_
    exact ⟨by simpa using h, (), by rw [List.drop_of_length_le (by rw [bs_len]; exact h)]; rfl, trivial⟩
def nameCfg (s : ByteArray) : WCfg := { cfgOf [] with loops := fun k => match k with | 2 => some ((nameL s).row []) | _ => none }
def wordCfg (s : ByteArray) : WCfg := { cfgOf [] with loops := fun k => match k with | 4 => some ((wordL s).row []) | _ => none }
theorem nameN {s : ByteArray} (h : s.size ≤ 9223372036854775807) : ∃ (b : Nat), (b ≤ s.size ∧ s.size ≤ (9223372036854775807 : Nat)) ∧ (D.str s = D.str s ∧ D.int IntKind.i64 (↑s.size : Int) = D.int IntKind.i64 (↑s.size : Int) ∧ D.int IntKind.i64 (↑b : Int) = D.int IntKind.i64 (0 : Int)) ∧ (∀ (a : Unit), (List.drop b (bs s)).all okCh = true → (decide ((1 : Int) ≤ (↑s.size : Int)) = true → (decide ((↑s.size : Int) ≤ (12 : Int)) = true → D.bool (decide (s ≠ dash)) = D.bool (nameB s)) ∧ (decide ((↑s.size : Int) ≤ (12 : Int)) = false → D.bool false = D.bool (nameB s))) ∧ (decide ((1 : Int) ≤ (↑s.size : Int)) = false → D.bool false = D.bool (nameB s))) ∧ ∀ (a : Unit), (List.drop b (bs s)).all okCh = false → D.bool false = D.bool (nameB s) := by
  refine ⟨0, ⟨by omega, h⟩, ⟨rfl, rfl, rfl⟩, fun _ hm => ?_, fun _ hm => ?_⟩
  · rw [List.drop_zero] at hm
    unfold nameB
    rw [hm, Bool.true_and]
    refine chks (fun h1 => chks (fun h2 => ?_) fun h2 => ?_) fun h1 => ?_
    · congr 1; exact decide_eq_decide.2 (by constructor <;> intro hh <;> first | exact ⟨by omega, by omega, hh⟩ | exact hh.2.2)
    · congr 1; symm; exact decide_eq_false (by omega)
    · congr 1; symm; exact decide_eq_false (by omega)
  · rw [List.drop_zero] at hm
    unfold nameB
    rw [hm]; rfl
theorem wordN {s : ByteArray} (h : s.size ≤ 9223372036854775807) : (decide ((↑s.size : Int) < (1 : Int)) = true → D.bool false = D.bool (nameB s)) ∧ (decide ((↑s.size : Int) < (1 : Int)) = false → (decide ((12 : Int) < (↑s.size : Int)) = true → D.bool false = D.bool (nameB s)) ∧ (decide ((12 : Int) < (↑s.size : Int)) = false → (decide (s = dash) = true → D.bool false = D.bool (nameB s)) ∧ (decide (s = dash) = false → ∃ (b : Nat), (b ≤ s.size ∧ s.size ≤ (9223372036854775807 : Nat)) ∧ (D.str s = D.str s ∧ D.int IntKind.i64 (↑s.size : Int) = D.int IntKind.i64 (↑s.size : Int) ∧ D.int IntKind.i64 (↑b : Int) = D.int IntKind.i64 (0 : Int)) ∧ (∀ (a : Unit), (List.drop b (bs s)).all okCh = true → D.bool true = D.bool (nameB s)) ∧ ∀ (a : Unit), (List.drop b (bs s)).all okCh = false → D.bool false = D.bool (nameB s)))) := by
  unfold nameB
  refine ⟨fun h1 => ?_, fun h1 => ⟨fun h2 => ?_, fun h2 => ⟨fun h3 => ?_, fun h3 => ?_⟩⟩⟩
  · rw [decide_eq_true_eq] at h1; congr 1; symm; rw [Bool.and_eq_false_iff]; exact .inr (decide_eq_false (by omega))
  · rw [decide_eq_true_eq] at h2; congr 1; symm; rw [Bool.and_eq_false_iff]; exact .inr (decide_eq_false (by omega))
  · rw [decide_eq_true_eq] at h3; congr 1; symm; rw [Bool.and_eq_false_iff]; exact .inr (decide_eq_false (by rintro ⟨_, _, hh⟩; exact hh h3))
  · rw [decide_eq_false_iff_not] at h1 h2 h3
    refine ⟨0, ⟨by omega, h⟩, ⟨rfl, rfl, rfl⟩, fun _ hm => ?_, fun _ hm => ?_⟩
    · rw [List.drop_zero] at hm
      rw [hm, Bool.true_and]
      congr 1; symm; exact decide_eq_true ⟨by omega, by omega, h3⟩
    · rw [List.drop_zero] at hm
      rw [hm]; rfl
def nameS : List D → Option DOut := fun vs => match vs with | [.str s] => some ⟨s.size ≤ 9223372036854775807, .bool (nameB s)⟩ | _ => none
def nameC : Ctr := ⟨51, nameS, by
  intro vs o ho hp
  unfold nameS at ho
  split at ho
  · rename_i s
    injection ho with ho; subst ho
    refine dataFunL (C := nameCfg s) (ctrs_ok [] rfl rfl) rfl Try.func51 (by kernel_rfl) (l := [lp Try.f51 2]) (by kernel_rfl) ?_ (by kernel_rfl) (by kernel_rfl) (by kernel_rfl) (nameN hp)
    intro x hx
    rw [List.mem_singleton.1 hx]
    exact (nameL s).fits 2 [] (by kernel_rfl) rfl (nameR s)
  · cases ho⟩
def wordC : Ctr := ⟨37, nameS, by
  intro vs o ho hp
  unfold nameS at ho
  split at ho
  · rename_i s
    injection ho with ho; subst ho
    refine dataFunL (C := wordCfg s) (ctrs_ok [] rfl rfl) rfl Try.func37 (by kernel_rfl) (l := [lp Try.f37 4]) (by kernel_rfl) ?_ (by kernel_rfl) (by kernel_rfl) (by kernel_rfl) (wordN hp)
    intro x hx
    rw [List.mem_singleton.1 hx]
    exact (wordL s).fits 4 [] (by kernel_rfl) rfl (wordR s)
  · cases ho⟩
/-- The numbers of a configuration, by where they lie. -/
def numsV (xs : List D) : D × Store := (.tup [.ms 1 0 15 15 true, .ms 2 0 4 4 true], [some (.row .own 23 xs), some (.row .own 4 [.agg [.str ⟨#[105, 110, 116, 101, 114, 118, 97, 108]⟩, .ptr 0 0 0, .int .i64 10, .int .i64 10000], .agg [.str ⟨#[116, 105, 109, 101, 111, 117, 116]⟩, .ptr 0 0 1, .int .i64 1, .int .i64 10000], .agg [.str ⟨#[106, 105, 116, 116, 101, 114]⟩, .ptr 0 0 2, .int .i64 0, .int .i64 1000], .agg [.str ⟨#[114, 105, 115, 101]⟩, .ptr 0 0 3, .int .i64 1, .int .i64 10], .agg [.str ⟨#[102, 97, 108, 108]⟩, .ptr 0 0 4, .int .i64 1, .int .i64 10], .agg [.str ⟨#[112, 97, 110, 105, 99]⟩, .ptr 0 0 5, .int .i64 0, .int .i64 100], .agg [.str ⟨#[111, 118, 101, 114]⟩, .ptr 0 0 6, .int .i64 100, .int .i64 1000], .agg [.str ⟨#[101, 114, 114, 111, 114, 115]⟩, .ptr 0 0 7, .int .i64 0, .int .i64 100], .agg [.str ⟨#[115, 119, 101, 101, 112]⟩, .ptr 0 0 8, .int .i64 10, .int .i64 10000], .agg [.str ⟨#[104, 111, 115, 116, 115]⟩, .ptr 0 0 9, .int .i64 1, .int .i64 64], .agg [.str ⟨#[114, 101, 113, 117, 101, 115, 116, 115]⟩, .ptr 0 0 10, .int .i64 1, .int .i64 1000], .agg [.str ⟨#[102, 97, 99, 116, 111, 114]⟩, .ptr 0 0 11, .int .i64 0, .int .i64 10000], .agg [.str ⟨#[102, 97, 105, 108, 115]⟩, .ptr 0 0 12, .int .i64 0, .int .i64 100], .agg [.str ⟨#[98, 97, 115, 101]⟩, .ptr 0 0 13, .int .i64 1, .int .i64 10000], .agg [.str ⟨#[101, 106, 101, 99, 116]⟩, .ptr 0 0 14, .int .i64 0, .int .i64 100]]), some (.row .own 4 [.agg [.str ⟨#[115, 108, 111, 119]⟩, .ptr 0 0 16, .int .i64 0, .int .i64 10000], .agg [.str ⟨#[100, 114, 97, 105, 110]⟩, .ptr 0 0 17, .int .i64 1, .int .i64 10000], .agg [.str ⟨#[104, 111, 115, 116, 108, 105, 109, 105, 116]⟩, .ptr 0 0 18, .int .i64 1, .int .i64 1000], .agg [.str ⟨#[112, 111, 111, 108, 108, 105, 109, 105, 116]⟩, .ptr 0 0 19, .int .i64 1, .int .i64 10000]])])
theorem numsV_ok (xs : List D) : (runN Try.prog M1 60).1 50 [.ptr 0 0 0] [some (.row .own 23 xs)] = some ((numsV xs).1, (numsV xs).2) := by kernel_rfl
noncomputable def mayBs : SpecB := fun f vs σ => match f, vs, σ with
  | 50, [.ptr 0 0 0], [some (.row .own 23 xs)] => some (True, (numsV xs).1, (numsV xs).2)
  | _, _, _ => none
noncomputable def mayWC : WCfg := { cfgH [nameC] [(13, .g), (16, .l), (17, .g)] with bspec := mayBs, byref := fun f => f == 50, unr := fun k => if k = 3 then 20 else 0 }
theorem lfF {c : Cfg} (h : ¬c.nums) : D.bool false = D.bool (mayCfg c) := by congr 1; symm; exact decide_eq_false fun hh => h hh.1
theorem lfT {c : Cfg} (h : c.nums) (hz : c.zone = .empty) : D.bool true = D.bool (mayCfg c) := by congr 1; symm; exact decide_eq_true ⟨h, .inl hz⟩
theorem lfZ {c : Cfg} (h : c.nums) (hz : c.zone ≠ .empty) : D.bool (nameB c.zone) = D.bool (mayCfg c) := by
  congr 1
  unfold mayCfg
  cases hn : nameB c.zone with
  | false =>
    symm
    refine decide_eq_false fun hh => ?_
    rcases hh.2 with h1 | h1
    · exact hz h1
    · cases h1
  | true => symm; exact decide_eq_true ⟨h, .inr rfl⟩
theorem mayCN {c : Cfg} (hz : c.zone.size ≤ 9223372036854775807) : True ∧ (decide (c.interval < (10 : Int)) = true → D.bool false = D.bool (mayCfg c)) ∧ (decide (c.interval < (10 : Int)) = false → (decide ((10000 : Int) < c.interval) = true → D.bool false = D.bool (mayCfg c)) ∧ (decide ((10000 : Int) < c.interval) = false → inK IntKind.i64 ((0 : Int) + (1 : Int)) ∧ (decide (c.timeout < (1 : Int)) = true → D.bool false = D.bool (mayCfg c)) ∧ (decide (c.timeout < (1 : Int)) = false → (decide ((10000 : Int) < c.timeout) = true → D.bool false = D.bool (mayCfg c)) ∧ (decide ((10000 : Int) < c.timeout) = false → inK IntKind.i64 ((0 : Int) + (1 : Int) + (1 : Int)) ∧ (decide (c.jitter < (0 : Int)) = true → D.bool false = D.bool (mayCfg c)) ∧ (decide (c.jitter < (0 : Int)) = false → (decide ((1000 : Int) < c.jitter) = true → D.bool false = D.bool (mayCfg c)) ∧ (decide ((1000 : Int) < c.jitter) = false → inK IntKind.i64 ((0 : Int) + (1 : Int) + (1 : Int) + (1 : Int)) ∧ (decide (c.rise < (1 : Int)) = true → D.bool false = D.bool (mayCfg c)) ∧ (decide (c.rise < (1 : Int)) = false → (decide ((10 : Int) < c.rise) = true → D.bool false = D.bool (mayCfg c)) ∧ (decide ((10 : Int) < c.rise) = false → inK IntKind.i64 ((0 : Int) + (1 : Int) + (1 : Int) + (1 : Int) + (1 : Int)) ∧ (decide (c.fall < (1 : Int)) = true → D.bool false = D.bool (mayCfg c)) ∧ (decide (c.fall < (1 : Int)) = false → (decide ((10 : Int) < c.fall) = true → D.bool false = D.bool (mayCfg c)) ∧ (decide ((10 : Int) < c.fall) = false → inK IntKind.i64 ((0 : Int) + (1 : Int) + (1 : Int) + (1 : Int) + (1 : Int) + (1 : Int)) ∧ (decide (c.panic < (0 : Int)) = true → D.bool false = D.bool (mayCfg c)) ∧ (decide (c.panic < (0 : Int)) = false → (decide ((100 : Int) < c.panic) = true → D.bool false = D.bool (mayCfg c)) ∧ (decide ((100 : Int) < c.panic) = false → inK IntKind.i64 ((0 : Int) + (1 : Int) + (1 : Int) + (1 : Int) + (1 : Int) + (1 : Int) + (1 : Int)) ∧ (decide (c.over < (100 : Int)) = true → D.bool false = D.bool (mayCfg c)) ∧ (decide (c.over < (100 : Int)) = false → (decide ((1000 : Int) < c.over) = true → D.bool false = D.bool (mayCfg c)) ∧ (decide ((1000 : Int) < c.over) = false → inK IntKind.i64 ((0 : Int) + (1 : Int) + (1 : Int) + (1 : Int) + (1 : Int) + (1 : Int) + (1 : Int) + (1 : Int)) ∧ (decide (c.errors < (0 : Int)) = true → D.bool false = D.bool (mayCfg c)) ∧ (decide (c.errors < (0 : Int)) = false → (decide ((100 : Int) < c.errors) = true → D.bool false = D.bool (mayCfg c)) ∧ (decide ((100 : Int) < c.errors) = false → inK IntKind.i64 ((0 : Int) + (1 : Int) + (1 : Int) + (1 : Int) + (1 : Int) + (1 : Int) + (1 : Int) + (1 : Int) + (1 : Int)) ∧ (decide (c.sweep < (10 : Int)) = true → D.bool false = D.bool (mayCfg c)) ∧ (decide (c.sweep < (10 : Int)) = false → (decide ((10000 : Int) < c.sweep) = true → D.bool false = D.bool (mayCfg c)) ∧ (decide ((10000 : Int) < c.sweep) = false → inK IntKind.i64 ((0 : Int) + (1 : Int) + (1 : Int) + (1 : Int) + (1 : Int) + (1 : Int) + (1 : Int) + (1 : Int) + (1 : Int) + (1 : Int)) ∧ (decide (c.hosts < (1 : Int)) = true → D.bool false = D.bool (mayCfg c)) ∧ (decide (c.hosts < (1 : Int)) = false → (decide ((64 : Int) < c.hosts) = true → D.bool false = D.bool (mayCfg c)) ∧ (decide ((64 : Int) < c.hosts) = false → inK IntKind.i64 ((0 : Int) + (1 : Int) + (1 : Int) + (1 : Int) + (1 : Int) + (1 : Int) + (1 : Int) + (1 : Int) + (1 : Int) + (1 : Int) + (1 : Int)) ∧ (decide (c.requests < (1 : Int)) = true → D.bool false = D.bool (mayCfg c)) ∧ (decide (c.requests < (1 : Int)) = false → (decide ((1000 : Int) < c.requests) = true → D.bool false = D.bool (mayCfg c)) ∧ (decide ((1000 : Int) < c.requests) = false → inK IntKind.i64 ((0 : Int) + (1 : Int) + (1 : Int) + (1 : Int) + (1 : Int) + (1 : Int) + (1 : Int) + (1 : Int) + (1 : Int) + (1 : Int) + (1 : Int) + (1 : Int)) ∧ (decide (c.factor < (0 : Int)) = true → D.bool false = D.bool (mayCfg c)) ∧ (decide (c.factor < (0 : Int)) = false → (decide ((10000 : Int) < c.factor) = true → D.bool false = D.bool (mayCfg c)) ∧ (decide ((10000 : Int) < c.factor) = false → inK IntKind.i64 ((0 : Int) + (1 : Int) + (1 : Int) + (1 : Int) + (1 : Int) + (1 : Int) + (1 : Int) + (1 : Int) + (1 : Int) + (1 : Int) + (1 : Int) + (1 : Int) + (1 : Int)) ∧ (decide (c.fails < (0 : Int)) = true → D.bool false = D.bool (mayCfg c)) ∧ (decide (c.fails < (0 : Int)) = false → (decide ((100 : Int) < c.fails) = true → D.bool false = D.bool (mayCfg c)) ∧ (decide ((100 : Int) < c.fails) = false → inK IntKind.i64 ((0 : Int) + (1 : Int) + (1 : Int) + (1 : Int) + (1 : Int) + (1 : Int) + (1 : Int) + (1 : Int) + (1 : Int) + (1 : Int) + (1 : Int) + (1 : Int) + (1 : Int) + (1 : Int)) ∧ (decide (c.base < (1 : Int)) = true → D.bool false = D.bool (mayCfg c)) ∧ (decide (c.base < (1 : Int)) = false → (decide ((10000 : Int) < c.base) = true → D.bool false = D.bool (mayCfg c)) ∧ (decide ((10000 : Int) < c.base) = false → inK IntKind.i64 ((0 : Int) + (1 : Int) + (1 : Int) + (1 : Int) + (1 : Int) + (1 : Int) + (1 : Int) + (1 : Int) + (1 : Int) + (1 : Int) + (1 : Int) + (1 : Int) + (1 : Int) + (1 : Int) + (1 : Int)) ∧ (decide (c.eject < (0 : Int)) = true → D.bool false = D.bool (mayCfg c)) ∧ (decide (c.eject < (0 : Int)) = false → (decide ((100 : Int) < c.eject) = true → D.bool false = D.bool (mayCfg c)) ∧ (decide ((100 : Int) < c.eject) = false → inK IntKind.i64 ((0 : Int) + (1 : Int) + (1 : Int) + (1 : Int) + (1 : Int) + (1 : Int) + (1 : Int) + (1 : Int) + (1 : Int) + (1 : Int) + (1 : Int) + (1 : Int) + (1 : Int) + (1 : Int) + (1 : Int) + (1 : Int)) ∧ (decide (c.slow < (0 : Int)) = true → D.bool false = D.bool (mayCfg c)) ∧ (decide (c.slow < (0 : Int)) = false → (decide ((10000 : Int) < c.slow) = true → D.bool false = D.bool (mayCfg c)) ∧ (decide ((10000 : Int) < c.slow) = false → inK IntKind.i64 ((0 : Int) + (1 : Int) + (1 : Int) + (1 : Int) + (1 : Int) + (1 : Int) + (1 : Int) + (1 : Int) + (1 : Int) + (1 : Int) + (1 : Int) + (1 : Int) + (1 : Int) + (1 : Int) + (1 : Int) + (1 : Int) + (1 : Int)) ∧ (decide (c.drain < (1 : Int)) = true → D.bool false = D.bool (mayCfg c)) ∧ (decide (c.drain < (1 : Int)) = false → (decide ((10000 : Int) < c.drain) = true → D.bool false = D.bool (mayCfg c)) ∧ (decide ((10000 : Int) < c.drain) = false → inK IntKind.i64 ((0 : Int) + (1 : Int) + (1 : Int) + (1 : Int) + (1 : Int) + (1 : Int) + (1 : Int) + (1 : Int) + (1 : Int) + (1 : Int) + (1 : Int) + (1 : Int) + (1 : Int) + (1 : Int) + (1 : Int) + (1 : Int) + (1 : Int) + (1 : Int)) ∧ (decide (c.hostLimit < (1 : Int)) = true → D.bool false = D.bool (mayCfg c)) ∧ (decide (c.hostLimit < (1 : Int)) = false → (decide ((1000 : Int) < c.hostLimit) = true → D.bool false = D.bool (mayCfg c)) ∧ (decide ((1000 : Int) < c.hostLimit) = false → inK IntKind.i64 ((0 : Int) + (1 : Int) + (1 : Int) + (1 : Int) + (1 : Int) + (1 : Int) + (1 : Int) + (1 : Int) + (1 : Int) + (1 : Int) + (1 : Int) + (1 : Int) + (1 : Int) + (1 : Int) + (1 : Int) + (1 : Int) + (1 : Int) + (1 : Int) + (1 : Int)) ∧ (decide (c.poolLimit < (1 : Int)) = true → D.bool false = D.bool (mayCfg c)) ∧ (decide (c.poolLimit < (1 : Int)) = false → (decide ((10000 : Int) < c.poolLimit) = true → D.bool false = D.bool (mayCfg c)) ∧ (decide ((10000 : Int) < c.poolLimit) = false → inK IntKind.i64 ((0 : Int) + (1 : Int) + (1 : Int) + (1 : Int) + (1 : Int) + (1 : Int) + (1 : Int) + (1 : Int) + (1 : Int) + (1 : Int) + (1 : Int) + (1 : Int) + (1 : Int) + (1 : Int) + (1 : Int) + (1 : Int) + (1 : Int) + (1 : Int) + (1 : Int) + (1 : Int)) ∧ (decide ((1 : Int) ≤ c.policy) = true → (decide (c.policy ≤ (3 : Int)) = true → (decide (c.zone = ByteArray.empty) = true → D.bool true = D.bool (mayCfg c)) ∧ (decide (c.zone = ByteArray.empty) = false → c.zone.size ≤ (9223372036854775807 : Nat) ∧ D.bool (nameB c.zone) = D.bool (mayCfg c))) ∧ (decide (c.policy ≤ (3 : Int)) = false → D.bool false = D.bool (mayCfg c))) ∧ (decide ((1 : Int) ≤ c.policy) = false → D.bool false = D.bool (mayCfg c)))))))))))))))))))))))))))))))))))))))) := by
  simp only [decide_eq_true_eq, decide_eq_false_iff_not, inK]
  repeat' (first | (intro _) | (apply And.intro))
  all_goals first
    | omega
    | trivial
    | exact lfF (by unfold Cfg.nums; omega)
    | exact lfT (by unfold Cfg.nums; omega) (by assumption)
    | exact lfZ (by unfold Cfg.nums; omega) (by assumption)
    | exact hz
theorem mayWC_ok : SpecsOk Try.prog mayWC := by
  constructor
  · intro g vs o ho hp
    exact (ctrs_ok (C := cfgOf [nameC]) [nameC] rfl rfl).data g vs o ho hp
  · intro g vs σ p r σ' hb hs hp
    have hg : g = 50 := by simpa [mayWC] using hb
    subst hg
    unfold mayWC at hs
    simp only at hs
    unfold mayBs at hs
    split at hs
    · injection hs with hs; injection hs with h1 hs; injection hs with h2 h3
      subst h2 h3
      exact refFun_run goodM primM mix 60 (numsV_ok _)
    · cases hs
  · intro g vs σ p r σ' hb hr; cases hr
def mayCfgS (vs : List D) : Option DOut := match vs with | [.agg cs] => some ⟨.agg cs = (dCfg (.agg cs)).toD ∧ (dCfg (.agg cs)).zone.size ≤ 9223372036854775807, .bool (mayCfg (dCfg (.agg cs)))⟩ | _ => none
def mayCfgC : Ctr := ⟨25, mayCfgS, by
  intro vs o ho hp
  unfold mayCfgS at ho
  split at ho
  · injection ho with ho; subst ho
    obtain ⟨h1, h2⟩ := hp
    simp only at h1 h2 ⊢
    rw [h1]
    generalize dCfg (.agg _) = c at *
    exact dataFunL (C := mayWC) mayWC_ok rfl Try.func25 (by kernel_rfl) (l := []) (by kernel_rfl) (fun x hx => by cases hx) (by kernel_rfl) (by kernel_rfl) (by kernel_rfl) (mayCN h2)
  · cases ho⟩
/-- The reference's table, and its numbers. -/
def rowsV : D := .sl true [.agg [.str ⟨#[105, 110, 116, 101, 114, 118, 97, 108]⟩, .int .i64 10, .int .i64 10000, .int .i64 100], .agg [.str ⟨#[116, 105, 109, 101, 111, 117, 116]⟩, .int .i64 1, .int .i64 10000, .int .i64 20], .agg [.str ⟨#[106, 105, 116, 116, 101, 114]⟩, .int .i64 0, .int .i64 1000, .int .i64 0], .agg [.str ⟨#[114, 105, 115, 101]⟩, .int .i64 1, .int .i64 10, .int .i64 2], .agg [.str ⟨#[102, 97, 108, 108]⟩, .int .i64 1, .int .i64 10, .int .i64 3], .agg [.str ⟨#[112, 97, 110, 105, 99]⟩, .int .i64 0, .int .i64 100, .int .i64 50], .agg [.str ⟨#[111, 118, 101, 114]⟩, .int .i64 100, .int .i64 1000, .int .i64 140], .agg [.str ⟨#[101, 114, 114, 111, 114, 115]⟩, .int .i64 0, .int .i64 100, .int .i64 5], .agg [.str ⟨#[115, 119, 101, 101, 112]⟩, .int .i64 10, .int .i64 10000, .int .i64 1000], .agg [.str ⟨#[104, 111, 115, 116, 115]⟩, .int .i64 1, .int .i64 64, .int .i64 5], .agg [.str ⟨#[114, 101, 113, 117, 101, 115, 116, 115]⟩, .int .i64 1, .int .i64 1000, .int .i64 100], .agg [.str ⟨#[102, 97, 99, 116, 111, 114]⟩, .int .i64 0, .int .i64 10000, .int .i64 1900], .agg [.str ⟨#[102, 97, 105, 108, 115]⟩, .int .i64 0, .int .i64 100, .int .i64 0], .agg [.str ⟨#[98, 97, 115, 101]⟩, .int .i64 1, .int .i64 10000, .int .i64 3000], .agg [.str ⟨#[101, 106, 101, 99, 116]⟩, .int .i64 0, .int .i64 100, .int .i64 10], .agg [.str ⟨#[111, 110, 101]⟩, .int .i64 0, .int .i64 1, .int .i64 1], .agg [.str ⟨#[115, 108, 111, 119]⟩, .int .i64 0, .int .i64 10000, .int .i64 0], .agg [.str ⟨#[100, 114, 97, 105, 110]⟩, .int .i64 1, .int .i64 10000, .int .i64 5000], .agg [.str ⟨#[104, 111, 115, 116, 108, 105, 109, 105, 116]⟩, .int .i64 1, .int .i64 1000, .int .i64 1000], .agg [.str ⟨#[112, 111, 111, 108, 108, 105, 109, 105, 116]⟩, .int .i64 1, .int .i64 10000, .int .i64 10000], .agg [.str ⟨#[112, 111, 108, 105, 99, 121]⟩, .int .i64 1, .int .i64 3, .int .i64 1], .agg [.str ⟨#[122, 111, 110, 101]⟩, .int .i64 0, .int .i64 0, .int .i64 0], .agg [.str ⟨#[102, 97, 108, 108, 98, 97, 99, 107]⟩, .int .i64 0, .int .i64 1, .int .i64 0]]
def rowsC : Ctr := ⟨36, fun vs => match vs with | [] => some ⟨True, rowsV⟩ | _ => none, by
  intro vs o ho _
  split at ho
  · injection ho with ho; subst ho; exact dataFun_run goodM primM mix 60 (by kernel_rfl) (by kernel_rfl)
  · cases ho⟩
def bitI (b : Bool) : Int := if b = true then 1 else 0
def bitS : List D → Option DOut := fun vs => match vs with | [.bool b] => some ⟨True, .int .i64 (bitI b)⟩ | _ => none
theorem bitN (b : Bool) : (b = true → D.int IntKind.i64 (1 : Int) = D.int IntKind.i64 (bitI b)) ∧ (b = false → D.int IntKind.i64 (0 : Int) = D.int IntKind.i64 (bitI b)) := by cases b <;> simp [bitI]
def bitC : Ctr := ⟨58, bitS, by
  intro vs o ho hp
  unfold bitS at ho
  split at ho
  · rename_i b; injection ho with ho; subst ho
    exact dataFun0 (C := cfgOf []) (ctrs_ok [] rfl rfl) rfl Try.func58 (by kernel_rfl) (by kernel_rfl) (by kernel_rfl) (by kernel_rfl) (by kernel_rfl) (bitN b)
  · cases ho⟩
def Cfg.row (c : Cfg) : D := .sl true ([c.interval, c.timeout, c.jitter, c.rise, c.fall, c.panic, c.over, c.errors, c.sweep, c.hosts, c.requests, c.factor, c.fails, c.base, c.eject, bitI c.one, c.slow, c.drain, c.hostLimit, c.poolLimit, c.policy, 0, bitI c.fallback].map iD)
def rowS : List D → Option DOut := fun vs => match vs with | [.agg cs] => some ⟨.agg cs = (dCfg (.agg cs)).toD, (dCfg (.agg cs)).row⟩ | _ => none
theorem rowN (c : Cfg) : True ∧ True ∧ (23 : Nat) ≤ (23 : Nat) ∧ true = true ∧ D.sl true [D.int IntKind.i64 c.interval, D.int IntKind.i64 c.timeout, D.int IntKind.i64 c.jitter, D.int IntKind.i64 c.rise, D.int IntKind.i64 c.fall, D.int IntKind.i64 c.panic, D.int IntKind.i64 c.over, D.int IntKind.i64 c.errors, D.int IntKind.i64 c.sweep, D.int IntKind.i64 c.hosts, D.int IntKind.i64 c.requests, D.int IntKind.i64 c.factor, D.int IntKind.i64 c.fails, D.int IntKind.i64 c.base, D.int IntKind.i64 c.eject, D.int IntKind.i64 (bitI c.one), D.int IntKind.i64 c.slow, D.int IntKind.i64 c.drain, D.int IntKind.i64 c.hostLimit, D.int IntKind.i64 c.poolLimit, D.int IntKind.i64 c.policy, D.int IntKind.i64 (0 : Int), D.int IntKind.i64 (bitI c.fallback)] = D.sl true [D.int IntKind.i64 c.interval, D.int IntKind.i64 c.timeout, D.int IntKind.i64 c.jitter, D.int IntKind.i64 c.rise, D.int IntKind.i64 c.fall, D.int IntKind.i64 c.panic, D.int IntKind.i64 c.over, D.int IntKind.i64 c.errors, D.int IntKind.i64 c.sweep, D.int IntKind.i64 c.hosts, D.int IntKind.i64 c.requests, D.int IntKind.i64 c.factor, D.int IntKind.i64 c.fails, D.int IntKind.i64 c.base, D.int IntKind.i64 c.eject, D.int IntKind.i64 (bitI c.one), D.int IntKind.i64 c.slow, D.int IntKind.i64 c.drain, D.int IntKind.i64 c.hostLimit, D.int IntKind.i64 c.poolLimit, D.int IntKind.i64 c.policy, D.int IntKind.i64 (0 : Int), D.int IntKind.i64 (bitI c.fallback)] := by
  simp
def rowC : Ctr := ⟨35, rowS, by
  intro vs o ho hp
  unfold rowS at ho
  split at ho
  · injection ho with ho; subst ho
    simp only at hp ⊢
    rw [hp]
    generalize dCfg (.agg _) = c at *
    exact dataFun0 (C := cfgOf [bitC]) (ctrs_ok [bitC] rfl rfl) rfl Try.func35 (by kernel_rfl) (by kernel_rfl) (by kernel_rfl) (by kernel_rfl) (by kernel_rfl) (rowN c)
  · cases ho⟩
noncomputable def mayWC' : WCfg := { cfgH [wordC, rowsC, rowC] [(11, .l), (13, .g), (17, .g), (25, .g)] with unr := fun k => if k = 3 then 24 else 0 }
theorem mayCN' {c : Cfg} (hz : c.zone.size ≤ 9223372036854775807) : D.agg [D.int IntKind.i64 c.interval, D.int IntKind.i64 c.timeout, D.int IntKind.i64 c.jitter, D.int IntKind.i64 c.rise, D.int IntKind.i64 c.fall, D.int IntKind.i64 c.panic, D.int IntKind.i64 c.over, D.int IntKind.i64 c.errors, D.int IntKind.i64 c.sweep, D.int IntKind.i64 c.hosts, D.int IntKind.i64 c.requests, D.int IntKind.i64 c.factor, D.int IntKind.i64 c.fails, D.int IntKind.i64 c.base, D.int IntKind.i64 c.eject, D.bool c.one, D.int IntKind.i64 c.slow, D.int IntKind.i64 c.drain, D.int IntKind.i64 c.hostLimit, D.int IntKind.i64 c.poolLimit, D.int IntKind.i64 c.policy, D.str c.zone, D.bool c.fallback] = D.agg [D.int IntKind.i64 c.interval, D.int IntKind.i64 c.timeout, D.int IntKind.i64 c.jitter, D.int IntKind.i64 c.rise, D.int IntKind.i64 c.fall, D.int IntKind.i64 c.panic, D.int IntKind.i64 c.over, D.int IntKind.i64 c.errors, D.int IntKind.i64 c.sweep, D.int IntKind.i64 c.hosts, D.int IntKind.i64 c.requests, D.int IntKind.i64 c.factor, D.int IntKind.i64 c.fails, D.int IntKind.i64 c.base, D.int IntKind.i64 c.eject, D.bool c.one, D.int IntKind.i64 c.slow, D.int IntKind.i64 c.drain, D.int IntKind.i64 c.hostLimit, D.int IntKind.i64 c.poolLimit, D.int IntKind.i64 c.policy, D.str c.zone, D.bool c.fallback] ∧ True ∧ (decide (c.interval < (10 : Int)) = true → D.bool false = D.bool (mayCfg c)) ∧ (decide (c.interval < (10 : Int)) = false → (decide ((10000 : Int) < c.interval) = true → D.bool false = D.bool (mayCfg c)) ∧ (decide ((10000 : Int) < c.interval) = false → inK IntKind.i64 ((0 : Int) + (1 : Int)) ∧ (decide (c.timeout < (1 : Int)) = true → D.bool false = D.bool (mayCfg c)) ∧ (decide (c.timeout < (1 : Int)) = false → (decide ((10000 : Int) < c.timeout) = true → D.bool false = D.bool (mayCfg c)) ∧ (decide ((10000 : Int) < c.timeout) = false → inK IntKind.i64 ((0 : Int) + (1 : Int) + (1 : Int)) ∧ (decide (c.jitter < (0 : Int)) = true → D.bool false = D.bool (mayCfg c)) ∧ (decide (c.jitter < (0 : Int)) = false → (decide ((1000 : Int) < c.jitter) = true → D.bool false = D.bool (mayCfg c)) ∧ (decide ((1000 : Int) < c.jitter) = false → inK IntKind.i64 ((0 : Int) + (1 : Int) + (1 : Int) + (1 : Int)) ∧ (decide (c.rise < (1 : Int)) = true → D.bool false = D.bool (mayCfg c)) ∧ (decide (c.rise < (1 : Int)) = false → (decide ((10 : Int) < c.rise) = true → D.bool false = D.bool (mayCfg c)) ∧ (decide ((10 : Int) < c.rise) = false → inK IntKind.i64 ((0 : Int) + (1 : Int) + (1 : Int) + (1 : Int) + (1 : Int)) ∧ (decide (c.fall < (1 : Int)) = true → D.bool false = D.bool (mayCfg c)) ∧ (decide (c.fall < (1 : Int)) = false → (decide ((10 : Int) < c.fall) = true → D.bool false = D.bool (mayCfg c)) ∧ (decide ((10 : Int) < c.fall) = false → inK IntKind.i64 ((0 : Int) + (1 : Int) + (1 : Int) + (1 : Int) + (1 : Int) + (1 : Int)) ∧ (decide (c.panic < (0 : Int)) = true → D.bool false = D.bool (mayCfg c)) ∧ (decide (c.panic < (0 : Int)) = false → (decide ((100 : Int) < c.panic) = true → D.bool false = D.bool (mayCfg c)) ∧ (decide ((100 : Int) < c.panic) = false → inK IntKind.i64 ((0 : Int) + (1 : Int) + (1 : Int) + (1 : Int) + (1 : Int) + (1 : Int) + (1 : Int)) ∧ (decide (c.over < (100 : Int)) = true → D.bool false = D.bool (mayCfg c)) ∧ (decide (c.over < (100 : Int)) = false → (decide ((1000 : Int) < c.over) = true → D.bool false = D.bool (mayCfg c)) ∧ (decide ((1000 : Int) < c.over) = false → inK IntKind.i64 ((0 : Int) + (1 : Int) + (1 : Int) + (1 : Int) + (1 : Int) + (1 : Int) + (1 : Int) + (1 : Int)) ∧ (decide (c.errors < (0 : Int)) = true → D.bool false = D.bool (mayCfg c)) ∧ (decide (c.errors < (0 : Int)) = false → (decide ((100 : Int) < c.errors) = true → D.bool false = D.bool (mayCfg c)) ∧ (decide ((100 : Int) < c.errors) = false → inK IntKind.i64 ((0 : Int) + (1 : Int) + (1 : Int) + (1 : Int) + (1 : Int) + (1 : Int) + (1 : Int) + (1 : Int) + (1 : Int)) ∧ (decide (c.sweep < (10 : Int)) = true → D.bool false = D.bool (mayCfg c)) ∧ (decide (c.sweep < (10 : Int)) = false → (decide ((10000 : Int) < c.sweep) = true → D.bool false = D.bool (mayCfg c)) ∧ (decide ((10000 : Int) < c.sweep) = false → inK IntKind.i64 ((0 : Int) + (1 : Int) + (1 : Int) + (1 : Int) + (1 : Int) + (1 : Int) + (1 : Int) + (1 : Int) + (1 : Int) + (1 : Int)) ∧ (decide (c.hosts < (1 : Int)) = true → D.bool false = D.bool (mayCfg c)) ∧ (decide (c.hosts < (1 : Int)) = false → (decide ((64 : Int) < c.hosts) = true → D.bool false = D.bool (mayCfg c)) ∧ (decide ((64 : Int) < c.hosts) = false → inK IntKind.i64 ((0 : Int) + (1 : Int) + (1 : Int) + (1 : Int) + (1 : Int) + (1 : Int) + (1 : Int) + (1 : Int) + (1 : Int) + (1 : Int) + (1 : Int)) ∧ (decide (c.requests < (1 : Int)) = true → D.bool false = D.bool (mayCfg c)) ∧ (decide (c.requests < (1 : Int)) = false → (decide ((1000 : Int) < c.requests) = true → D.bool false = D.bool (mayCfg c)) ∧ (decide ((1000 : Int) < c.requests) = false → inK IntKind.i64 ((0 : Int) + (1 : Int) + (1 : Int) + (1 : Int) + (1 : Int) + (1 : Int) + (1 : Int) + (1 : Int) + (1 : Int) + (1 : Int) + (1 : Int) + (1 : Int)) ∧ (decide (c.factor < (0 : Int)) = true → D.bool false = D.bool (mayCfg c)) ∧ (decide (c.factor < (0 : Int)) = false → (decide ((10000 : Int) < c.factor) = true → D.bool false = D.bool (mayCfg c)) ∧ (decide ((10000 : Int) < c.factor) = false → inK IntKind.i64 ((0 : Int) + (1 : Int) + (1 : Int) + (1 : Int) + (1 : Int) + (1 : Int) + (1 : Int) + (1 : Int) + (1 : Int) + (1 : Int) + (1 : Int) + (1 : Int) + (1 : Int)) ∧ (decide (c.fails < (0 : Int)) = true → D.bool false = D.bool (mayCfg c)) ∧ (decide (c.fails < (0 : Int)) = false → (decide ((100 : Int) < c.fails) = true → D.bool false = D.bool (mayCfg c)) ∧ (decide ((100 : Int) < c.fails) = false → inK IntKind.i64 ((0 : Int) + (1 : Int) + (1 : Int) + (1 : Int) + (1 : Int) + (1 : Int) + (1 : Int) + (1 : Int) + (1 : Int) + (1 : Int) + (1 : Int) + (1 : Int) + (1 : Int) + (1 : Int)) ∧ (decide (c.base < (1 : Int)) = true → D.bool false = D.bool (mayCfg c)) ∧ (decide (c.base < (1 : Int)) = false → (decide ((10000 : Int) < c.base) = true → D.bool false = D.bool (mayCfg c)) ∧ (decide ((10000 : Int) < c.base) = false → inK IntKind.i64 ((0 : Int) + (1 : Int) + (1 : Int) + (1 : Int) + (1 : Int) + (1 : Int) + (1 : Int) + (1 : Int) + (1 : Int) + (1 : Int) + (1 : Int) + (1 : Int) + (1 : Int) + (1 : Int) + (1 : Int)) ∧ (decide (c.eject < (0 : Int)) = true → D.bool false = D.bool (mayCfg c)) ∧ (decide (c.eject < (0 : Int)) = false → (decide ((100 : Int) < c.eject) = true → D.bool false = D.bool (mayCfg c)) ∧ (decide ((100 : Int) < c.eject) = false → inK IntKind.i64 ((0 : Int) + (1 : Int) + (1 : Int) + (1 : Int) + (1 : Int) + (1 : Int) + (1 : Int) + (1 : Int) + (1 : Int) + (1 : Int) + (1 : Int) + (1 : Int) + (1 : Int) + (1 : Int) + (1 : Int) + (1 : Int)) ∧ (decide (bitI c.one < (0 : Int)) = true → D.bool false = D.bool (mayCfg c)) ∧ (decide (bitI c.one < (0 : Int)) = false → (decide ((1 : Int) < bitI c.one) = true → D.bool false = D.bool (mayCfg c)) ∧ (decide ((1 : Int) < bitI c.one) = false → inK IntKind.i64 ((0 : Int) + (1 : Int) + (1 : Int) + (1 : Int) + (1 : Int) + (1 : Int) + (1 : Int) + (1 : Int) + (1 : Int) + (1 : Int) + (1 : Int) + (1 : Int) + (1 : Int) + (1 : Int) + (1 : Int) + (1 : Int) + (1 : Int)) ∧ (decide (c.slow < (0 : Int)) = true → D.bool false = D.bool (mayCfg c)) ∧ (decide (c.slow < (0 : Int)) = false → (decide ((10000 : Int) < c.slow) = true → D.bool false = D.bool (mayCfg c)) ∧ (decide ((10000 : Int) < c.slow) = false → inK IntKind.i64 ((0 : Int) + (1 : Int) + (1 : Int) + (1 : Int) + (1 : Int) + (1 : Int) + (1 : Int) + (1 : Int) + (1 : Int) + (1 : Int) + (1 : Int) + (1 : Int) + (1 : Int) + (1 : Int) + (1 : Int) + (1 : Int) + (1 : Int) + (1 : Int)) ∧ (decide (c.drain < (1 : Int)) = true → D.bool false = D.bool (mayCfg c)) ∧ (decide (c.drain < (1 : Int)) = false → (decide ((10000 : Int) < c.drain) = true → D.bool false = D.bool (mayCfg c)) ∧ (decide ((10000 : Int) < c.drain) = false → inK IntKind.i64 ((0 : Int) + (1 : Int) + (1 : Int) + (1 : Int) + (1 : Int) + (1 : Int) + (1 : Int) + (1 : Int) + (1 : Int) + (1 : Int) + (1 : Int) + (1 : Int) + (1 : Int) + (1 : Int) + (1 : Int) + (1 : Int) + (1 : Int) + (1 : Int) + (1 : Int)) ∧ (decide (c.hostLimit < (1 : Int)) = true → D.bool false = D.bool (mayCfg c)) ∧ (decide (c.hostLimit < (1 : Int)) = false → (decide ((1000 : Int) < c.hostLimit) = true → D.bool false = D.bool (mayCfg c)) ∧ (decide ((1000 : Int) < c.hostLimit) = false → inK IntKind.i64 ((0 : Int) + (1 : Int) + (1 : Int) + (1 : Int) + (1 : Int) + (1 : Int) + (1 : Int) + (1 : Int) + (1 : Int) + (1 : Int) + (1 : Int) + (1 : Int) + (1 : Int) + (1 : Int) + (1 : Int) + (1 : Int) + (1 : Int) + (1 : Int) + (1 : Int) + (1 : Int)) ∧ (decide (c.poolLimit < (1 : Int)) = true → D.bool false = D.bool (mayCfg c)) ∧ (decide (c.poolLimit < (1 : Int)) = false → (decide ((10000 : Int) < c.poolLimit) = true → D.bool false = D.bool (mayCfg c)) ∧ (decide ((10000 : Int) < c.poolLimit) = false → inK IntKind.i64 ((0 : Int) + (1 : Int) + (1 : Int) + (1 : Int) + (1 : Int) + (1 : Int) + (1 : Int) + (1 : Int) + (1 : Int) + (1 : Int) + (1 : Int) + (1 : Int) + (1 : Int) + (1 : Int) + (1 : Int) + (1 : Int) + (1 : Int) + (1 : Int) + (1 : Int) + (1 : Int) + (1 : Int)) ∧ (decide (c.policy < (1 : Int)) = true → D.bool false = D.bool (mayCfg c)) ∧ (decide (c.policy < (1 : Int)) = false → (decide ((3 : Int) < c.policy) = true → D.bool false = D.bool (mayCfg c)) ∧ (decide ((3 : Int) < c.policy) = false → inK IntKind.i64 ((0 : Int) + (1 : Int) + (1 : Int) + (1 : Int) + (1 : Int) + (1 : Int) + (1 : Int) + (1 : Int) + (1 : Int) + (1 : Int) + (1 : Int) + (1 : Int) + (1 : Int) + (1 : Int) + (1 : Int) + (1 : Int) + (1 : Int) + (1 : Int) + (1 : Int) + (1 : Int) + (1 : Int) + (1 : Int)) ∧ (false = true → D.bool false = D.bool (mayCfg c)) ∧ (false = false → (false = true → D.bool false = D.bool (mayCfg c)) ∧ (false = false → inK IntKind.i64 ((0 : Int) + (1 : Int) + (1 : Int) + (1 : Int) + (1 : Int) + (1 : Int) + (1 : Int) + (1 : Int) + (1 : Int) + (1 : Int) + (1 : Int) + (1 : Int) + (1 : Int) + (1 : Int) + (1 : Int) + (1 : Int) + (1 : Int) + (1 : Int) + (1 : Int) + (1 : Int) + (1 : Int) + (1 : Int) + (1 : Int)) ∧ (decide (bitI c.fallback < (0 : Int)) = true → D.bool false = D.bool (mayCfg c)) ∧ (decide (bitI c.fallback < (0 : Int)) = false → (decide ((1 : Int) < bitI c.fallback) = true → D.bool false = D.bool (mayCfg c)) ∧ (decide ((1 : Int) < bitI c.fallback) = false → inK IntKind.i64 ((0 : Int) + (1 : Int) + (1 : Int) + (1 : Int) + (1 : Int) + (1 : Int) + (1 : Int) + (1 : Int) + (1 : Int) + (1 : Int) + (1 : Int) + (1 : Int) + (1 : Int) + (1 : Int) + (1 : Int) + (1 : Int) + (1 : Int) + (1 : Int) + (1 : Int) + (1 : Int) + (1 : Int) + (1 : Int) + (1 : Int) + (1 : Int)) ∧ (decide (c.zone = ByteArray.empty) = true → D.bool true = D.bool (mayCfg c)) ∧ (decide (c.zone = ByteArray.empty) = false → c.zone.size ≤ (9223372036854775807 : Nat) ∧ D.bool (nameB c.zone) = D.bool (mayCfg c)))))))))))))))))))))))))))))))))))))))))))))))) := by
  have b1 : 0 ≤ bitI c.one ∧ bitI c.one ≤ 1 := by unfold bitI; split <;> omega
  have b2 : 0 ≤ bitI c.fallback ∧ bitI c.fallback ≤ 1 := by unfold bitI; split <;> omega
  simp only [decide_eq_true_eq, decide_eq_false_iff_not, inK]
  repeat' (first | (intro _) | (apply And.intro))
  all_goals first
    | omega
    | trivial
    | exact lfF (by unfold Cfg.nums; omega)
    | exact lfT (by unfold Cfg.nums; omega) (by assumption)
    | exact lfZ (by unfold Cfg.nums; omega) (by assumption)
    | exact hz
theorem mayWC'_ok : SpecsOk Try.prog mayWC' := ctrs_ok [wordC, rowsC, rowC] rfl rfl
noncomputable def mayCfgC' : Ctr := ⟨15, mayCfgS, by
  intro vs o ho hp
  unfold mayCfgS at ho
  split at ho
  · injection ho with ho; subst ho
    obtain ⟨h1, h2⟩ := hp
    simp only at h1 h2 ⊢
    rw [h1]
    generalize dCfg (.agg _) = c at *
    exact dataFunL (C := mayWC') mayWC'_ok rfl Try.func15 (by kernel_rfl) (l := []) (by kernel_rfl) (fun x hx => by cases hx) (by kernel_rfl) (by kernel_rfl) (by kernel_rfl) (mayCN' h2)
  · cases ho⟩
def defS : List D → Option DOut := fun vs => match vs with | [] => some ⟨True, cfgDef.toD⟩ | _ => none
def defC : Ctr := ⟨68, defS, by
  intro vs o ho _
  unfold defS at ho
  split at ho
  · injection ho with ho; subst ho; exact dataFun_run goodM primM mix 60 (by kernel_rfl) (by kernel_rfl)
  · cases ho⟩
def defC' : Ctr := ⟨22, defS, by
  intro vs o ho _
  unfold defS at ho
  split at ho
  · injection ho with ho; subst ho; exact dataFun_run goodM primM mix 60 (by kernel_rfl) (by kernel_rfl)
  · cases ho⟩
/-- A configuration that may be. -/
def held (c : Cfg) : Cfg := if mayCfg c = true then c else cfgDef
end Go.Proofs.Ytfclelafcdcilaa.Dv
