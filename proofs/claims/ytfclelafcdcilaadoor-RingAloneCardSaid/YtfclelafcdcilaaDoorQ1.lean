/- Texts as numbers: small numerals, Text, With. -/
import Derived.Test.YtfclelafcdcilaaDoorA0
set_option linter.unusedVariables false
set_option linter.unusedSimpArgs false
namespace Go.Proofs.YtfclelafcdcilaaDoor.Dv
open Go Go.Proofs
/-- What strconv.Itoa hands out, as the program computes it. -/
noncomputable def itoaS (n : Nat) : ByteArray := match ((runN Tryd.prog M1 60).1 27 [.int .i64 n] []) with
  | some (.str s, []) => s
  | _ => .empty
noncomputable def itoaOk (n : Nat) : Bool := match ((runN Tryd.prog M1 60).1 27 [.int .i64 n] []) with
  | some (.str s, []) => decide (s.size ≤ 2)
  | _ => false
theorem itoa_all : ((List.range 60).all itoaOk) = true := by kernel_rfl
theorem itoa_run {n : Nat} (h : n < 60) : ((runN Tryd.prog M1 60).1 27 [.int .i64 n] []) = some (.str (itoaS n), []) ∧ (itoaS n).size ≤ 2 := by
  have := List.all_eq_true.1 itoa_all n (List.mem_range.2 h)
  unfold itoaOk at this
  unfold itoaS
  split at this
  · rename_i s hs
    rw [hs]
    exact ⟨rfl, of_decide_eq_true this⟩
  · cases this
noncomputable def itC : Ctr := ⟨27, fun vs => match vs with | [.int .i64 n] => some ⟨0 ≤ n ∧ n < 60, .str (itoaS n.toNat)⟩ | _ => none, by
  intro vs o ho hp
  split at ho
  · rename_i n
    injection ho with ho; subst ho
    obtain ⟨h0, h1⟩ := hp
    have hr := (itoa_run (n := n.toNat) (by omega)).1
    rw [show ((n.toNat : Nat) : Int) = n by omega] at hr
    exact dataFun_run goodM primM mix 60 rfl (by rw [hr]; rfl)
  · cases ho⟩
def bsQ (s : ByteArray) : List UInt8 := s.data.toList
theorem bsQ_len (s : ByteArray) : (bsQ s).length = s.size := rfl
theorem bsQ_get (s : ByteArray) (i : Nat) : s[i]? = (bsQ s)[i]? := by
  unfold bsQ
  rw [Array.getElem?_toList]
  by_cases h : i < s.size
  · rw [getElem?_pos s i h, getElem?_pos s.data i h]; rfl
  · rw [getElem?_neg s i h, getElem?_neg s.data i h]
def hashF (h : Int) (b : UInt8) : Int := wr .u64 (xorK .u64 h (b.toNat : Int) * 1099511628211)
def hashL (l : List UInt8) : Int := l.foldl hashF 14695981039346656037
def mixI (h : Int) : Int := let x := wr .u64 (xorK .u64 h (shrK .u64 h 33) * 18397679294719823053); xorK .u64 x (shrK .u64 x 33)
def textV (s : ByteArray) : Int := mixI (hashL (bsQ s))
theorem hashL_take {l : List UInt8} {i : Nat} {b : UInt8} (h : l[i]? = some b) : hashL (l.take (i + 1)) = hashF (hashL (l.take i)) b := by
  obtain ⟨h1, h2⟩ := List.getElem?_eq_some_iff.1 h
  unfold hashL
  rw [List.take_succ_eq_append_getElem h1, h2, List.foldl_append]; rfl
def txS (vs : List D) : Option DOut := match vs with | [.str s] => some ⟨s.size ≤ 9223372036854775807, .int .u64 (textV s)⟩ | _ => none
def txL (s : ByteArray) : WLoop :=
  { St := Nat
    O := Unit
    T := fun i => [(0, .str s), (3, .int .u64 (hashL ((bsQ s).take i))), (6, .int .i64 s.size), (7, .int .i64 i)]
    ok := fun i => i ≤ s.size ∧ s.size ≤ 9223372036854775807
    μ := fun i => s.size - i
    m := fun _ => ()
    outs := [{ α := Unit, is := fun _ _ => True, ex := .exit 0, T := fun _ => [(3, .int .u64 (hashL (bsQ s)))] }] }
theorem txR (s : ByteArray) (i : Nat) (hs : (txL s).ok i) : Tri Tryd.prog 0 27 (lp Tryd.f23 3) (tb ((txL s).T i)) ((txL s).S i) ((txL s).q 0 i) := by
  obtain ⟨h1, h2⟩ := hs
  rcases Nat.lt_or_ge i s.size with h | h
  · refine round0 (C := cfgH [] [(8, .t), (16, .w), (22, .w)]) (ctrs_ok ([]) rfl rfl) (by kernel_rfl) (by kernel_rfl) (q := decide ((↑i : Int) < (↑s.size : Int)) = true ∧ ∃ (b : UInt8), (0 : Int) ≤ (↑i : Int) ∧ s[(↑i : Int).toNat]? = some b ∧ inK IntKind.u64 (↑b.toNat : Int) ∧ inK IntKind.i64 ((↑i : Int) + (1 : Int)) ∧ ∃ (s' : Nat), (s' ≤ s.size ∧ s.size ≤ (9223372036854775807 : Nat)) ∧ (s.size - s').succ ≤ s.size - i ∧ () = () ∧ D.str s = D.str s ∧ D.int IntKind.u64 (hashL (List.take s' (bsQ s))) = D.int IntKind.u64 (wr IntKind.u64 (xorK IntKind.u64 (hashL (List.take i (bsQ s))) (↑b.toNat : Int) * (1099511628211 : Int))) ∧ D.int IntKind.i64 (↑s.size : Int) = D.int IntKind.i64 (↑s.size : Int) ∧ D.int IntKind.i64 (↑s' : Int) = D.int IntKind.i64 ((↑i : Int) + (1 : Int))) (by kernel_rfl) ?_
    obtain ⟨b, hb⟩ : ∃ b, (bsQ s)[i]? = some b := ⟨_, List.getElem?_eq_getElem (by rw [bsQ_len]; exact h)⟩
    have hbb : b.toNat < 256 := b.toNat_lt
    exact ⟨decide_eq_true (by omega), b, by omega, by rw [Int.toNat_natCast, bsQ_get]; exact hb, by simp only [inK]; omega, by simp only [inK]; omega, i + 1, ⟨by omega, h2⟩, by omega, rfl, rfl, congrArg (D.int .u64) (hashL_take hb), rfl, by simp⟩
  · refine round0 (C := cfgH [] [(8, .f), (16, .w), (22, .w)]) (ctrs_ok ([]) rfl rfl) (by kernel_rfl) (by kernel_rfl) (q := decide ((↑i : Int) < (↑s.size : Int)) = false ∧ ∃ (a : Unit), True ∧ D.int IntKind.u64 (hashL (bsQ s)) = D.int IntKind.u64 (hashL (List.take i (bsQ s)))) (by kernel_rfl) ?_
    exact ⟨decide_eq_false (by omega), (), trivial, congrArg (fun l => D.int .u64 (hashL l)) (List.take_of_length_le (by rw [bsQ_len]; exact h)).symm⟩
noncomputable def txCfg (s : ByteArray) : WCfg := { cfgH [] [(16, .w), (22, .w)] with loops := fun k => match k with | 3 => some ((txL s).row []) | _ => none }
theorem txN (s : ByteArray) (h : s.size ≤ 9223372036854775807) : ∃ (b : Nat), (b ≤ s.size ∧ s.size ≤ (9223372036854775807 : Nat)) ∧ (D.str s = D.str s ∧ D.int IntKind.u64 (hashL (List.take b (bsQ s))) = D.int IntKind.u64 (14695981039346656037 : Int) ∧ D.int IntKind.i64 (↑s.size : Int) = D.int IntKind.i64 (↑s.size : Int) ∧ D.int IntKind.i64 (↑b : Int) = D.int IntKind.i64 (0 : Int)) ∧ ∀ (a : Unit), True → (0 : Int) ≤ (33 : Int) ∧ (0 : Int) ≤ (33 : Int) ∧ D.int IntKind.u64 (xorK IntKind.u64 (wr IntKind.u64 (xorK IntKind.u64 (hashL (bsQ s)) (shrK IntKind.u64 (hashL (bsQ s)) (33 : Int)) * (18397679294719823053 : Int))) (shrK IntKind.u64 (wr IntKind.u64 (xorK IntKind.u64 (hashL (bsQ s)) (shrK IntKind.u64 (hashL (bsQ s)) (33 : Int)) * (18397679294719823053 : Int))) (33 : Int))) = D.int IntKind.u64 (textV s) := by
  exact ⟨0, ⟨Nat.zero_le _, h⟩, ⟨rfl, rfl, rfl, rfl⟩, fun _ _ => ⟨by omega, by omega, rfl⟩⟩
def txC : Ctr := ⟨23, txS, by
  intro vs o ho hp
  unfold txS at ho
  split at ho
  · rename_i s
    injection ho with ho; subst ho
    refine dataFunL (C := txCfg s) (ctrs_ok [] rfl rfl) rfl Tryd.func23 (by kernel_rfl) (l := [lp Tryd.f23 3]) (by kernel_rfl) ?_ (by kernel_rfl) (by kernel_rfl) (by kernel_rfl) (txN s hp)
    intro x hx
    rw [List.mem_singleton.1 hx]
    exact (txL s).fits 3 [] (by kernel_rfl) rfl (txR s)
  · cases ho⟩
def txL' (s : ByteArray) : WLoop :=
  { St := Nat
    O := Unit
    T := fun i => [(0, .str s), (3, .int .u64 (hashL ((bsQ s).take i))), (7, .int .i64 s.size), (8, .int .i64 i)]
    ok := fun i => i ≤ s.size ∧ s.size ≤ 9223372036854775807
    μ := fun i => s.size - i
    m := fun _ => ()
    outs := [{ α := Unit, is := fun _ _ => True, ex := .exit 0, T := fun _ => [(3, .int .u64 (hashL (bsQ s)))] }] }
theorem txR' (s : ByteArray) (i : Nat) (hs : (txL' s).ok i) : Tri Tryd.prog 0 28 (lp Tryd.f26 3) (tb ((txL' s).T i)) ((txL' s).S i) ((txL' s).q 0 i) := by
  obtain ⟨h1, h2⟩ := hs
  rcases Nat.lt_or_ge i s.size with h | h
  · refine round0 (C := cfgH [] [(9, .t), (17, .w), (23, .w)]) (ctrs_ok ([]) rfl rfl) (by kernel_rfl) (by kernel_rfl) (q := decide ((↑i : Int) < (↑s.size : Int)) = true ∧ ∃ (b : UInt8), (0 : Int) ≤ (↑i : Int) ∧ s[(↑i : Int).toNat]? = some b ∧ inK IntKind.u64 (↑b.toNat : Int) ∧ inK IntKind.i64 ((↑i : Int) + (1 : Int)) ∧ ∃ (s' : Nat), (s' ≤ s.size ∧ s.size ≤ (9223372036854775807 : Nat)) ∧ (s.size - s').succ ≤ s.size - i ∧ () = () ∧ D.str s = D.str s ∧ D.int IntKind.u64 (hashL (List.take s' (bsQ s))) = D.int IntKind.u64 (wr IntKind.u64 (xorK IntKind.u64 (hashL (List.take i (bsQ s))) (↑b.toNat : Int) * (1099511628211 : Int))) ∧ D.int IntKind.i64 (↑s.size : Int) = D.int IntKind.i64 (↑s.size : Int) ∧ D.int IntKind.i64 (↑s' : Int) = D.int IntKind.i64 ((↑i : Int) + (1 : Int))) (by kernel_rfl) ?_
    obtain ⟨b, hb⟩ : ∃ b, (bsQ s)[i]? = some b := ⟨_, List.getElem?_eq_getElem (by rw [bsQ_len]; exact h)⟩
    have hbb : b.toNat < 256 := b.toNat_lt
    exact ⟨decide_eq_true (by omega), b, by omega, by rw [Int.toNat_natCast, bsQ_get]; exact hb, by simp only [inK]; omega, by simp only [inK]; omega, i + 1, ⟨by omega, h2⟩, by omega, rfl, rfl, congrArg (D.int .u64) (hashL_take hb), rfl, by simp⟩
  · refine round0 (C := cfgH [] [(9, .f), (17, .w), (23, .w)]) (ctrs_ok ([]) rfl rfl) (by kernel_rfl) (by kernel_rfl) (q := decide ((↑i : Int) < (↑s.size : Int)) = false ∧ ∃ (a : Unit), True ∧ D.int IntKind.u64 (hashL (bsQ s)) = D.int IntKind.u64 (hashL (List.take i (bsQ s)))) (by kernel_rfl) ?_
    exact ⟨decide_eq_false (by omega), (), trivial, congrArg (fun l => D.int .u64 (hashL l)) (List.take_of_length_le (by rw [bsQ_len]; exact h)).symm⟩
noncomputable def txCfg' (s : ByteArray) : WCfg := { cfgH [] [(17, .w), (23, .w)] with loops := fun k => match k with | 3 => some ((txL' s).row []) | _ => none }
theorem txN' (s : ByteArray) (h : s.size ≤ 9223372036854775807) : ∃ (b : Nat), (b ≤ s.size ∧ s.size ≤ (9223372036854775807 : Nat)) ∧ (D.str s = D.str s ∧ D.int IntKind.u64 (hashL (List.take b (bsQ s))) = D.int IntKind.u64 (14695981039346656037 : Int) ∧ D.int IntKind.i64 (↑s.size : Int) = D.int IntKind.i64 (↑s.size : Int) ∧ D.int IntKind.i64 (↑b : Int) = D.int IntKind.i64 (0 : Int)) ∧ ∀ (a : Unit), True → (0 : Int) ≤ (33 : Int) ∧ (0 : Int) ≤ (33 : Int) ∧ D.int IntKind.u64 (xorK IntKind.u64 (wr IntKind.u64 (xorK IntKind.u64 (hashL (bsQ s)) (shrK IntKind.u64 (hashL (bsQ s)) (33 : Int)) * (18397679294719823053 : Int))) (shrK IntKind.u64 (wr IntKind.u64 (xorK IntKind.u64 (hashL (bsQ s)) (shrK IntKind.u64 (hashL (bsQ s)) (33 : Int)) * (18397679294719823053 : Int))) (33 : Int))) = D.int IntKind.u64 (textV s) := by
  exact ⟨0, ⟨Nat.zero_le _, h⟩, ⟨rfl, rfl, rfl, rfl⟩, fun _ _ => ⟨by omega, by omega, rfl⟩⟩
def txC' : Ctr := ⟨26, txS, by
  intro vs o ho hp
  unfold txS at ho
  split at ho
  · rename_i s
    injection ho with ho; subst ho
    refine dataFunL (C := txCfg' s) (ctrs_ok [] rfl rfl) rfl Tryd.func26 (by kernel_rfl) (l := [lp Tryd.f26 3]) (by kernel_rfl) ?_ (by kernel_rfl) (by kernel_rfl) (by kernel_rfl) (txN' s hp)
    intro x hx
    rw [List.mem_singleton.1 hx]
    exact (txL' s).fits 3 [] (by kernel_rfl) rfl (txR' s)
  · cases ho⟩
def hash0 : ByteArray := ⟨#[35]⟩
noncomputable def withV (s : ByteArray) (n : Nat) : Int := textV (s ++ hash0 ++ itoaS n)
noncomputable def wiS (vs : List D) : Option DOut := match vs with | [.str s, .int .i64 n] => some ⟨s.size ≤ 1152921504606846976 ∧ 0 ≤ n ∧ n < 60, .int .u64 (withV s n.toNat)⟩ | _ => none
theorem wi_size {s : ByteArray} {n : Nat} (h : s.size ≤ 1152921504606846976) (hn : n < 60) : (s ++ hash0).size = s.size + 1 ∧ (s ++ hash0 ++ itoaS n).size ≤ 1152921504606846986 := by
  have h1 : (s ++ hash0).size = s.size + 1 := by rw [ByteArray.size_append]; rfl
  have h2 := (itoa_run hn).2
  exact ⟨h1, by rw [ByteArray.size_append, h1]; omega⟩
theorem wiN (s : ByteArray) (n : Int) (h : s.size ≤ 1152921504606846976) (h0 : 0 ≤ n) (h1 : n < 60) : s.size + (1 : Nat) ≤ (4611686018427387904 : Nat) ∧ ((0 : Int) ≤ n ∧ n < (60 : Int)) ∧ (s ++ ByteArray.mk #[(35 : UInt8)]).size + (itoaS n.toNat).size ≤ (4611686018427387904 : Nat) ∧ (s ++ ByteArray.mk #[(35 : UInt8)] ++ itoaS n.toNat).size ≤ (9223372036854775807 : Nat) ∧ D.int IntKind.u64 (textV (s ++ ByteArray.mk #[(35 : UInt8)] ++ itoaS n.toNat)) = D.int IntKind.u64 (withV s n.toNat) := by
  obtain ⟨e1, e2⟩ := wi_size (n := n.toNat) h (by omega)
  have e3 := (itoa_run (n := n.toNat) (by omega)).2
  have e4 : (s ++ hash0).size + (itoaS n.toNat).size ≤ 4611686018427387904 := by omega
  refine ⟨by show s.size + 1 ≤ _; omega, ⟨h0, h1⟩, ?_⟩
  refine ⟨e4, ?_, rfl⟩
  have e5 : (s ++ hash0 ++ itoaS n.toNat).size ≤ 9223372036854775807 := by omega
  exact e5
theorem wiN' (s : ByteArray) (n : Int) (h : s.size ≤ 1152921504606846976) (h0 : 0 ≤ n) (h1 : n < 60) : s.size + (1 : Nat) ≤ (4611686018427387904 : Nat) ∧ ((0 : Int) ≤ n ∧ n < (60 : Int)) ∧ (s ++ ByteArray.mk #[(35 : UInt8)]).size + (itoaS n.toNat).size ≤ (4611686018427387904 : Nat) ∧ (s ++ ByteArray.mk #[(35 : UInt8)] ++ itoaS n.toNat).size ≤ (9223372036854775807 : Nat) ∧ D.int IntKind.u64 (textV (s ++ ByteArray.mk #[(35 : UInt8)] ++ itoaS n.toNat)) = D.int IntKind.u64 (withV s n.toNat) := by
  obtain ⟨e1, e2⟩ := wi_size (n := n.toNat) h (by omega)
  have e3 := (itoa_run (n := n.toNat) (by omega)).2
  have e4 : (s ++ hash0).size + (itoaS n.toNat).size ≤ 4611686018427387904 := by omega
  refine ⟨by show s.size + 1 ≤ _; omega, ⟨h0, h1⟩, ?_⟩
  refine ⟨e4, ?_, rfl⟩
  have e5 : (s ++ hash0 ++ itoaS n.toNat).size ≤ 9223372036854775807 := by omega
  exact e5
noncomputable def wiC : Ctr := ⟨18, wiS, by
  intro vs o ho hp
  unfold wiS at ho
  split at ho
  · rename_i s n
    injection ho with ho; subst ho
    obtain ⟨h, h0, h1⟩ := hp
    exact dataFun0 (C := cfgH [itC, txC] []) (ctrs_ok [itC, txC] rfl rfl) rfl Tryd.func18 (by kernel_rfl) (by kernel_rfl) (by kernel_rfl) rfl (by kernel_rfl) (wiN s n h h0 h1)
  · cases ho⟩
noncomputable def wiC' : Ctr := ⟨15, wiS, by
  intro vs o ho hp
  unfold wiS at ho
  split at ho
  · rename_i s n
    injection ho with ho; subst ho
    obtain ⟨h, h0, h1⟩ := hp
    exact dataFun0 (C := cfgH [itC, txC'] []) (ctrs_ok [itC, txC'] rfl rfl) rfl Tryd.func15 (by kernel_rfl) (by kernel_rfl) (by kernel_rfl) rfl (by kernel_rfl) (wiN' s n h h0 h1)
  · cases ho⟩
end Go.Proofs.YtfclelafcdcilaaDoor.Dv
