/- MayTable; RingAlone. -/
import Derived.Test.YtfclelafcdcilaaDoorQD
set_option linter.unusedVariables false
set_option linter.unusedSimpArgs false
namespace Go.Proofs.YtfclelafcdcilaaDoor.Dv
open Go Go.Proofs
def tbB : List Hst → List Hst → Bool
  | _, [] => true
  | a, h :: r => mayH h && ((match a.getLast? with | none => true | some q => decide (q.id < h.id)) && tbB (a ++ [h]) r)
def tbL (f : Bool) (l : List Hst) : WLoop :=
  { St := List Hst × List Hst
    O := Bool
    T := fun s => [(0, .sl f (l.map hstD)), (5, .sl f (l.map hstD)), (6, .int .i64 (l.map hstD).length), (7, .int .i64 s.1.length)]
    ok := fun s => s.1 ++ s.2 = l ∧ l.length ≤ 4398046511104 ∧ ∀ h ∈ l, h.small
    μ := fun s => s.2.length
    m := fun s => tbB s.1 s.2
    outs := [{ α := Unit, is := fun o _ => o = true, ex := .exit 0, T := fun _ => [(0, .sl f (l.map hstD))] }, { α := Unit, is := fun o _ => o = false, ex := .ret, T := fun _ => [(2, .bool false)] }] }
theorem tbR (f : Bool) (l : List Hst) (s : (tbL f l).St) (hs : (tbL f l).ok s) : Tri Tryd.prog 0 34 (lp Tryd.f16 2) (tb ((tbL f l).T s)) ((tbL f l).S s) ((tbL f l).q 0 s) := by
  obtain ⟨a, r⟩ := s
  obtain ⟨h1, h2, h3⟩ := hs
  simp only at h1 h2
  subst h1
  cases r with
  | nil =>
    refine round0 (C := gCf 0 [] [] [(8, .f)]) (ctrs_ok ([]) rfl rfl) (by kernel_rfl) (by kernel_rfl) (q := decide ((↑a.length : Int) < (↑(List.map hstD (a ++ [])).length : Int)) = false ∧ ∃ (a_1 : Unit), true = true ∧ D.sl f (List.map hstD (a ++ [])) = D.sl f (List.map hstD (a ++ []))) (by kernel_rfl) ?_
    have hA : (List.map hstD (a ++ [])).length = a.length := by simp
    exact ⟨decide_eq_false (by omega), (), rfl, rfl⟩
  | cons x r =>
    have hA : (List.map hstD (a ++ x :: r)).length = a.length + (r.length + 1) := by simp
    have h2' : a.length + (r.length + 1) ≤ 4398046511104 := by rw [← hA, List.length_map]; exact h2
    have e1 : ({ id := x.id, addr := x.addr, prio := x.prio, zone := x.zone, w := x.w, f := x.f, mt := List.map dPairQ (List.map pairQ x.mt) } : Hst) = x := by rw [map_dPairQ]
    refine round0 (C := gCf 0 [mhC] [] [(8, .t)]) (ctrs_ok ([mhC]) rfl rfl) (by kernel_rfl) (by kernel_rfl) (q := decide ((↑a.length : Int) < (↑(List.map hstD (a ++ x :: r)).length : Int)) = true ∧ ∃ (y : Hst), (0 : Int) ≤ (↑a.length : Int) ∧ (List.map hstD (a ++ x :: r))[(↑a.length : Int).toNat]? = some (D.agg [D.int IntKind.i64 y.id, D.str y.addr, D.int IntKind.i64 y.prio, D.str y.zone, D.int IntKind.i64 y.w, D.sl y.f (List.map pairQ y.mt)]) ∧ (∃ (h : Hst), h.small ∧ D.agg [D.int IntKind.i64 y.id, D.str y.addr, D.int IntKind.i64 y.prio, D.str y.zone, D.int IntKind.i64 y.w, D.sl y.f (List.map pairQ y.mt)] = D.agg [D.int IntKind.i64 h.id, D.str h.addr, D.int IntKind.i64 h.prio, D.str h.zone, D.int IntKind.i64 h.w, D.sl h.f (List.map pairQ h.mt)]) ∧ ((!mayH (Hst.mk y.id y.addr y.prio y.zone y.w y.f (List.map dPairQ (List.map pairQ y.mt)))) = true → ∃ (a_2 : Unit), tbB a (x :: r) = false ∧ D.bool false = D.bool false) ∧ ((!mayH (Hst.mk y.id y.addr y.prio y.zone y.w y.f (List.map dPairQ (List.map pairQ y.mt)))) = false → (decide ((0 : Int) < (↑a.length : Int)) = true → inK IntKind.i64 ((↑a.length : Int) - (1 : Int)) ∧ ∃ (y_1 : Hst), (0 : Int) ≤ (↑a.length : Int) - (1 : Int) ∧ (List.map hstD (a ++ x :: r))[((↑a.length : Int) - (1 : Int)).toNat]? = some (D.agg [D.int IntKind.i64 y_1.id, D.str y_1.addr, D.int IntKind.i64 y_1.prio, D.str y_1.zone, D.int IntKind.i64 y_1.w, D.sl y_1.f (List.map pairQ y_1.mt)]) ∧ (decide (y.id ≤ y_1.id) = true → ∃ (a_4 : Unit), tbB a (x :: r) = false ∧ D.bool false = D.bool false) ∧ (decide (y.id ≤ y_1.id) = false → inK IntKind.i64 ((↑a.length : Int) + (1 : Int)) ∧ ∃ (s' : List Hst × List Hst), (s'.fst ++ s'.snd = a ++ x :: r ∧ (a ++ x :: r).length ≤ (4398046511104 : Nat) ∧ ∀ (h : Hst), List.Mem h (a ++ x :: r) → h.small) ∧ s'.snd.length.succ ≤ (x :: r).length ∧ tbB s'.fst s'.snd = tbB a (x :: r) ∧ D.sl f (List.map hstD (a ++ x :: r)) = D.sl f (List.map hstD (a ++ x :: r)) ∧ D.sl f (List.map hstD (a ++ x :: r)) = D.sl f (List.map hstD (a ++ x :: r)) ∧ D.int IntKind.i64 (↑(List.map hstD (a ++ x :: r)).length : Int) = D.int IntKind.i64 (↑(List.map hstD (a ++ x :: r)).length : Int) ∧ D.int IntKind.i64 (↑s'.fst.length : Int) = D.int IntKind.i64 ((↑a.length : Int) + (1 : Int)))) ∧ (decide ((0 : Int) < (↑a.length : Int)) = false → inK IntKind.i64 ((↑a.length : Int) + (1 : Int)) ∧ ∃ (s' : List Hst × List Hst), (s'.fst ++ s'.snd = a ++ x :: r ∧ (a ++ x :: r).length ≤ (4398046511104 : Nat) ∧ ∀ (h : Hst), List.Mem h (a ++ x :: r) → h.small) ∧ s'.snd.length.succ ≤ (x :: r).length ∧ tbB s'.fst s'.snd = tbB a (x :: r) ∧ D.sl f (List.map hstD (a ++ x :: r)) = D.sl f (List.map hstD (a ++ x :: r)) ∧ D.sl f (List.map hstD (a ++ x :: r)) = D.sl f (List.map hstD (a ++ x :: r)) ∧ D.int IntKind.i64 (↑(List.map hstD (a ++ x :: r)).length : Int) = D.int IntKind.i64 (↑(List.map hstD (a ++ x :: r)).length : Int) ∧ D.int IntKind.i64 (↑s'.fst.length : Int) = D.int IntKind.i64 ((↑a.length : Int) + (1 : Int))))) (by kernel_rfl) ?_
    refine ⟨decide_eq_true (by omega), x, by omega, get_midI hstD a x r, ⟨x, h3 x (by simp), rfl⟩, fun t => ⟨(), ?_, rfl⟩, fun t => ⟨fun t2 => ?_, fun t2 => ⟨inkQ (by omega), (a ++ [x], r), ⟨by simp, h2, h3⟩, Nat.le_refl _, ?_, rfl, rfl, rfl, by simp⟩⟩⟩
    · rw [e1] at t; unfold tbB; rw [(Bool.not_eq_true' _).mp t]; rfl
    · have t2 := of_decide_eq_true t2
      obtain ⟨a', q, rfl⟩ : ∃ a' q, a = a' ++ [q] := by
        rcases List.eq_nil_or_concat a with e | ⟨a', q, e⟩
        · subst e; simp at t2
        · exact ⟨a', q, by rw [e, List.concat_eq_append]⟩
      have hlq : (a' ++ [q]).length = a'.length + 1 := by simp
      have g1 : (List.map hstD (a' ++ [q] ++ x :: r))[(((a' ++ [q]).length : Int) - 1).toNat]? = some (hstD q) := by
        rw [show (((a' ++ [q]).length : Int) - 1) = (a'.length : Int) by omega, List.append_assoc]
        exact get_midI hstD a' q (x :: r)
      have e2 : tbB (a' ++ [q]) (x :: r) = (mayH x && (decide (q.id < x.id) && tbB (a' ++ [q] ++ [x]) r)) := by
        rw [tbB, List.getLast?_concat]
      refine ⟨inkQ (by omega), q, by omega, g1, fun t3 => ⟨(), ?_, rfl⟩, fun t3 => ⟨inkQ (by omega), (a' ++ [q] ++ [x], r), ⟨by simp, h2, h3⟩, Nat.le_refl _, ?_, rfl, rfl, rfl, by simp; omega⟩⟩
      · rw [e2, decide_eq_false (by have := of_decide_eq_true t3; omega), Bool.false_and, Bool.and_false]
      · rw [e1] at t
        rw [e2, (Bool.not_eq_false' _).mp t, decide_eq_true (by have := of_decide_eq_false t3; omega)]; rfl
    · have ha : a = [] := List.length_eq_zero_iff.1 (by have := of_decide_eq_false t2; omega)
      subst ha
      rw [e1] at t
      rw [tbB, (Bool.not_eq_false' _).mp t]; rfl
def tbCf (f : Bool) (l : List Hst) : WCfg := { gCf 0 [] [] [] with loops := fun k => match k with | 2 => some ((tbL f l).row []) | _ => none }
theorem tbN (f : Bool) (l : List Hst) (h1 : l.length ≤ 4398046511104) (h2 : ∀ h ∈ l, h.small) : ∃ (b : List Hst × List Hst), (b.fst ++ b.snd = l ∧ l.length ≤ (4398046511104 : Nat) ∧ ∀ (h : Hst), List.Mem h l → h.small) ∧ (D.sl f (List.map hstD l) = D.sl f (List.map hstD l) ∧ D.sl f (List.map hstD l) = D.sl f (List.map hstD l) ∧ D.int IntKind.i64 (↑(List.map hstD l).length : Int) = D.int IntKind.i64 (↑(List.map hstD l).length : Int) ∧ D.int IntKind.i64 (↑b.fst.length : Int) = D.int IntKind.i64 (0 : Int)) ∧ (∀ (a : Unit), tbB b.fst b.snd = true → D.bool (decide ((↑(List.map hstD l).length : Int) ≤ (64 : Int))) = D.bool (tbB [] l && decide ((↑l.length : Int) ≤ (64 : Int)))) ∧ ∀ (a : Unit), tbB b.fst b.snd = false → D.bool false = D.bool (tbB [] l && decide ((↑l.length : Int) ≤ (64 : Int))) := by
  rw [List.length_map]
  refine ⟨([], l), ⟨rfl, h1, h2⟩, ⟨rfl, rfl, rfl, rfl⟩, fun _ h => ?_, fun _ h => ?_⟩
  · rw [show tbB [] l = true from h]; rfl
  · rw [show tbB [] l = false from h]; rfl
def tbS (vs : List D) : Option DOut := match vs with | [.sl f xs] => some ⟨∃ l : List Hst, xs = l.map hstD ∧ l.length ≤ 4398046511104 ∧ ∀ h ∈ l, h.small, .bool (tbB [] (xs.map dHst) && decide ((xs.length : Int) ≤ 64))⟩ | _ => none
def tbC : Ctr := ⟨16, tbS, by
  intro vs o ho hp
  unfold tbS at ho
  split at ho
  · rename_i f xs
    injection ho with ho; subst ho
    obtain ⟨l, rfl, h1, h2⟩ := hp
    simp only
    rw [map_dHst, List.length_map]
    exact dataFunL (C := tbCf f l) (ctrs_ok [] rfl rfl) rfl Tryd.func16 (by kernel_rfl) (l := [lp Tryd.f16 2]) (by kernel_rfl) (fun x hx => by rw [List.mem_singleton.1 hx]; exact (tbL f l).fits 2 [] (by kernel_rfl) rfl (tbR f l)) (by kernel_rfl) rfl (by kernel_rfl) (tbN f l h1 h2)
  · cases ho⟩
theorem tbB_spec : ∀ (r a : List Hst), tbB a r = true → (∀ h ∈ r, mayH h = true) ∧ (∀ q, a.getLast? = some q → ∀ h ∈ r, q.id < h.id) ∧ (r.map (·.id)).Pairwise (· < ·)
  | [], a, _ => ⟨fun h hh => by simp at hh, fun q _ h hh => by simp at hh, List.Pairwise.nil⟩
  | x :: r, a, hk => by
    unfold tbB at hk
    rw [Bool.and_eq_true, Bool.and_eq_true] at hk
    obtain ⟨k1, k2, k3⟩ := hk
    obtain ⟨i1, i2, i3⟩ := tbB_spec r (a ++ [x]) k3
    have i2 := i2 x (by simp)
    have hq : ∀ q, a.getLast? = some q → q.id < x.id := fun q hq => by
      rw [hq] at k2
      exact of_decide_eq_true k2
    refine ⟨fun h hh => ?_, fun q hq' h hh => ?_, ?_⟩
    · rcases List.mem_cons.1 hh with rfl | hh
      · exact k1
      · exact i1 h hh
    · have := hq q hq'
      rcases List.mem_cons.1 hh with rfl | hh
      · exact this
      · have := i2 h hh; omega
    · rw [List.map_cons, List.pairwise_cons]
      refine ⟨fun y hy => ?_, i3⟩
      obtain ⟨h, hh, rfl⟩ := List.mem_map.1 hy
      exact i2 h hh
noncomputable def raC : List Ctr := [owrC, onC, lgC, aw23, tbC]
/-- all and some begin alike. -/
def raL (f : Bool) (l : List Hst) (key : ByteArray) (p q : Bool) (u v : List Int) : WLoop :=
  { St := Nat
    O := Unit
    T := fun i => [(0, .sl f (l.map hstD)), (1, .str key), (9, .sl p (u.map iD)), (10, .sl q (v.map iD)), (74, .int .i64 (u.map iD).length), (75, .int .i64 i)]
    ok := fun i => i ≤ u.length ∧ u.length ≤ 1000 ∧ u <+: v
    μ := fun i => u.length - i
    m := fun i => ()
    outs := [{ α := Unit, is := fun _ _ => True, ex := .exit 0, T := fun _ => [(0, .sl f (l.map hstD)), (1, .str key)] }] }
theorem raR (f : Bool) (l : List Hst) (key : ByteArray) (p q : Bool) (u v : List Int) (i : Nat) (hs : (raL f l key p q u v).ok i) : Tri Tryd.prog 0 96 (lp Tryd.f6 10) (tb ((raL f l key p q u v).T i)) ((raL f l key p q u v).S i) ((raL f l key p q u v).q 0 i) := by
  obtain ⟨h1, h2, h3⟩ := hs
  have hA : (List.map iD u).length = u.length := List.length_map ..
  rcases Nat.lt_or_ge i u.length with hi | hi
  · refine round0 (C := gCf 0 [] [] [(76, .t)]) (ctrs_ok ([]) rfl rfl) (by kernel_rfl) (by kernel_rfl) (q := decide ((↑i : Int) < (↑(List.map iD u).length : Int)) = true ∧ ∃ (y : Int), (0 : Int) ≤ (↑i : Int) ∧ (List.map iD u)[(↑i : Int).toNat]? = some (D.int IntKind.i64 y) ∧ ∃ (y_1 : Int), (0 : Int) ≤ (↑i : Int) ∧ (List.map iD v)[(↑i : Int).toNat]? = some (D.int IntKind.i64 y_1) ∧ (decide (y ≠ y_1) = true → False) ∧ (decide (y ≠ y_1) = false → inK IntKind.i64 ((↑i : Int) + (1 : Int)) ∧ ∃ (s' : Nat), (s' ≤ u.length ∧ u.length ≤ (1000 : Nat) ∧ ∃ (t : List Int), u ++ t = v) ∧ (u.length - s').succ ≤ u.length - i ∧ () = () ∧ D.sl f (List.map hstD l) = D.sl f (List.map hstD l) ∧ D.str key = D.str key ∧ D.sl p (List.map iD u) = D.sl p (List.map iD u) ∧ D.sl q (List.map iD v) = D.sl q (List.map iD v) ∧ D.int IntKind.i64 (↑(List.map iD u).length : Int) = D.int IntKind.i64 (↑(List.map iD u).length : Int) ∧ D.int IntKind.i64 (↑s' : Int) = D.int IntKind.i64 ((↑i : Int) + (1 : Int)))) (by kernel_rfl) ?_
    have hl := h3.length_le
    obtain ⟨y, hy⟩ : ∃ y, u[i]? = some y := ⟨_, List.getElem?_eq_getElem hi⟩
    have hv : v[i]? = some y := by
      obtain ⟨t, rfl⟩ := h3
      rw [List.getElem?_append_left hi]; exact hy
    exact ⟨decide_eq_true (by omega), y, by omega, by rw [Int.toNat_natCast, List.getElem?_map, hy]; rfl, y, by omega, by rw [Int.toNat_natCast, List.getElem?_map, hv]; rfl, fun t => absurd rfl (of_decide_eq_true t), fun _ => ⟨inkQ (by omega), i + 1, ⟨hi, h2, h3⟩, by omega, rfl, rfl, rfl, rfl, rfl, rfl, by simp⟩⟩
  · refine round0 (C := gCf 0 [] [] [(76, .f)]) (ctrs_ok ([]) rfl rfl) (by kernel_rfl) (by kernel_rfl) (q := decide ((↑i : Int) < (↑(List.map iD u).length : Int)) = false ∧ ∃ (a : Unit), True ∧ D.sl f (List.map hstD l) = D.sl f (List.map hstD l) ∧ D.str key = D.str key) (by kernel_rfl) ?_
    exact ⟨decide_eq_false (by omega), (), trivial, rfl, rfl⟩
noncomputable def raCf0 : WCfg := { gCf 0 raC [] [(25, .t)] with unr := fun j => if j = 10 then 1 else 0 }
theorem raN0 (f : Bool) (l : List Hst) (key : ByteArray) (n : Int) (h1 : l.length ≤ 4398046511104) (h2 : ∀ h ∈ l, h.small) (hb : lgtB l key = false ∨ l = [] ∨ (tbB [] l && decide ((l.length : Int) ≤ 64)) = false) : (∃ (l_1 : List Hst), List.map hstD l = List.map hstD l_1 ∧ l_1.length ≤ (4398046511104 : Nat) ∧ ∀ (h : Hst), List.Mem h l_1 → h.small) ∧ ((!lgtB (List.map dHst (List.map hstD l)) key) = true → True ∧ D.bool true = D.bool true) ∧ ((!lgtB (List.map dHst (List.map hstD l)) key) = false → (decide ((↑(List.map hstD l).length : Int) = (0 : Int)) = true → True ∧ D.bool true = D.bool true) ∧ (decide ((↑(List.map hstD l).length : Int) = (0 : Int)) = false → (∃ (l_1 : List Hst), List.map hstD l = List.map hstD l_1 ∧ l_1.length ≤ (4398046511104 : Nat) ∧ ∀ (h : Hst), List.Mem h l_1 → h.small) ∧ (!(tbB [] (List.map dHst (List.map hstD l)) && decide ((↑(List.map hstD l).length : Int) ≤ (64 : Int)))) = true ∧ True ∧ D.bool true = D.bool true)) := by
  rw [map_dHst, List.length_map]
  have okl : ∃ l_1 : List Hst, List.map hstD l = List.map hstD l_1 ∧ l_1.length ≤ 4398046511104 ∧ ∀ (h : Hst), List.Mem h l_1 → h.small := ⟨l, rfl, h1, h2⟩
  refine ⟨okl, fun _ => ⟨trivial, rfl⟩, fun t => ⟨fun _ => ⟨trivial, rfl⟩, fun t2 => ⟨okl, ?_, trivial, rfl⟩⟩⟩
  rcases hb with hb | hb | hb
  · rw [hb] at t; cases t
  · subst hb; exact absurd rfl (of_decide_eq_false t2)
  · rw [hb]; rfl
noncomputable def raCf (f : Bool) (l : List Hst) (key : ByteArray) (p q : Bool) (u v : List Int) : WCfg := { gCf 0 raC [] [(25, .f), (28, .w), (72, .f)] with loops := fun j => match j with | 10 => some ((raL f l key p q u v).row []) | _ => none }
theorem raN (f : Bool) (x : Hst) (r : List Hst) (key : ByteArray) (n : Int) (p q : Bool) (u v : List Int) (h1 : (x :: r).length ≤ 20) (h2 : ∀ h ∈ x :: r, h.small) (hlg : lgtB (x :: r) key = true) (htb : (tbB [] (x :: r) && decide (((x :: r).length : Int) ≤ 64)) = true) (hu : u = ownV (x :: r) key (wr .u64 n % 30)) (hv : v = ownV (x :: r) key (x :: r).length) (hp : p = u.isEmpty) (hq : q = v.isEmpty) (hone : owrV [x] key = some x.id) (hul2 : (u.length : Int) = min (wr .u64 n % 30) ((x :: r).length : Int)) (hvl : v.length = (x :: r).length) (hpre : u <+: v) : (∃ (l : List Hst), List.map hstD (x :: r) = List.map hstD l ∧ l.length ≤ (4398046511104 : Nat) ∧ ∀ (h : Hst), List.Mem h l → h.small) ∧ ((!lgtB (List.map dHst (List.map hstD (x :: r))) key) = true → True ∧ D.bool true = D.bool true) ∧ ((!lgtB (List.map dHst (List.map hstD (x :: r))) key) = false → (false = true → True ∧ D.bool true = D.bool true) ∧ (false = false → (∃ (l : List Hst), List.map hstD (x :: r) = List.map hstD l ∧ l.length ≤ (4398046511104 : Nat) ∧ ∀ (h : Hst), List.Mem h l → h.small) ∧ (!(tbB [] (List.map dHst (List.map hstD (x :: r))) && decide ((↑(List.map hstD (x :: r)).length : Int) ≤ (64 : Int)))) = false ∧ (0 : Int) ≤ wr IntKind.u64 n ∧ (0 : Int) < (30 : Int) ∧ inK IntKind.i64 (wr IntKind.u64 n % (30 : Int)) ∧ (0 : Int) ≤ (1 : Int) ∧ (0 : Nat) ≤ (1 : Nat) ∧ (1 : Nat) ≤ (List.map hstD (x :: r)).length ∧ true = true ∧ ((∃ (l : List Hst), [D.agg [D.int IntKind.i64 x.id, D.str x.addr, D.int IntKind.i64 x.prio, D.str x.zone, D.int IntKind.i64 x.w, D.sl x.f (List.map pairQ x.mt)]] = List.map hstD l ∧ l.length ≤ (1000 : Nat) ∧ ∀ (h : Hst), List.Mem h l → h.small) ∧ key.size ≤ (9223372036854775807 : Nat)) ∧ ((∃ (l : List Hst), List.map hstD (x :: r) = List.map hstD l ∧ l.length ≤ (1000 : Nat) ∧ ∀ (h : Hst), List.Mem h l → h.small) ∧ key.size ≤ (9223372036854775807 : Nat)) ∧ ((∃ (l : List Hst), List.map hstD (x :: r) = List.map hstD l ∧ l.length ≤ (1000 : Nat) ∧ ∀ (h : Hst), List.Mem h l → h.small) ∧ key.size ≤ (9223372036854775807 : Nat)) ∧ ((!(owrV [Hst.mk x.id x.addr x.prio x.zone x.w x.f (List.map dPairQ (List.map pairQ x.mt))] key).isSome) = true → D.bool false = D.bool true) ∧ ((!(owrV [Hst.mk x.id x.addr x.prio x.zone x.w x.f (List.map dPairQ (List.map pairQ x.mt))] key).isSome) = false → ∃ (y : Hst), (0 : Int) ≤ (0 : Int) ∧ some (D.agg [D.int IntKind.i64 x.id, D.str x.addr, D.int IntKind.i64 x.prio, D.str x.zone, D.int IntKind.i64 x.w, D.sl x.f (List.map pairQ x.mt)]) = some (D.agg [D.int IntKind.i64 y.id, D.str y.addr, D.int IntKind.i64 y.prio, D.str y.zone, D.int IntKind.i64 y.w, D.sl y.f (List.map pairQ y.mt)]) ∧ (decide ((owrV [Hst.mk x.id x.addr x.prio x.zone x.w x.f (List.map dPairQ (List.map pairQ x.mt))] key).getD (0 : Int) ≠ y.id) = true → D.bool false = D.bool true) ∧ (decide ((owrV [Hst.mk x.id x.addr x.prio x.zone x.w x.f (List.map dPairQ (List.map pairQ x.mt))] key).getD (0 : Int) ≠ y.id) = false → (decide ((↑(List.map iD (ownV (List.map dHst (List.map hstD (x :: r))) key (wr IntKind.u64 n % (30 : Int)))).length : Int) ≠ min (wr IntKind.u64 n % (30 : Int)) (↑(List.map hstD (x :: r)).length : Int)) = true → D.bool false = D.bool true) ∧ (decide ((↑(List.map iD (ownV (List.map dHst (List.map hstD (x :: r))) key (wr IntKind.u64 n % (30 : Int)))).length : Int) ≠ min (wr IntKind.u64 n % (30 : Int)) (↑(List.map hstD (x :: r)).length : Int)) = false → decide ((↑(List.map iD (ownV (List.map dHst (List.map hstD (x :: r))) key (↑(List.map hstD (x :: r)).length : Int))).length : Int) ≠ (↑(List.map hstD (x :: r)).length : Int)) = false ∧ ∃ (b : Nat), (b ≤ u.length ∧ u.length ≤ (1000 : Nat) ∧ ∃ (t : List Int), u ++ t = v) ∧ (D.sl f (List.map hstD (x :: r)) = D.sl f (List.map hstD (x :: r)) ∧ D.str key = D.str key ∧ D.sl p (List.map iD u) = D.sl (ownV (List.map dHst (List.map hstD (x :: r))) key (wr IntKind.u64 n % (30 : Int))).isEmpty (List.map iD (ownV (List.map dHst (List.map hstD (x :: r))) key (wr IntKind.u64 n % (30 : Int)))) ∧ D.sl q (List.map iD v) = D.sl (ownV (List.map dHst (List.map hstD (x :: r))) key (↑(List.map hstD (x :: r)).length : Int)).isEmpty (List.map iD (ownV (List.map dHst (List.map hstD (x :: r))) key (↑(List.map hstD (x :: r)).length : Int))) ∧ D.int IntKind.i64 (↑(List.map iD u).length : Int) = D.int IntKind.i64 (↑(List.map iD (ownV (List.map dHst (List.map hstD (x :: r))) key (wr IntKind.u64 n % (30 : Int)))).length : Int) ∧ D.int IntKind.i64 (↑b : Int) = D.int IntKind.i64 (0 : Int)) ∧ ∀ (a : Unit), True → ((∃ (l : List Hst), List.map hstD (x :: r) = List.map hstD l ∧ l.length ≤ (1000 : Nat) ∧ ∀ (h : Hst), List.Mem h l → h.small) ∧ key.size ≤ (9223372036854775807 : Nat)) ∧ (decide ((↑(List.map iD (ownV (List.map dHst (List.map hstD (x :: r))) key (0 : Int))).length : Int) = (0 : Int)) = true → True ∧ D.bool true = D.bool true) ∧ (decide ((↑(List.map iD (ownV (List.map dHst (List.map hstD (x :: r))) key (0 : Int))).length : Int) = (0 : Int)) = false → D.bool false = D.bool true)))))) := by
  have e1 : ({ id := x.id, addr := x.addr, prio := x.prio, zone := x.zone, w := x.w, f := x.f, mt := List.map dPairQ (List.map pairQ x.mt) } : Hst) = x := by rw [map_dPairQ]
  have hkey := (lgt_iff hlg).2
  have hwr : 0 ≤ wr .u64 n := by show 0 ≤ (n % 18446744073709551616 : Int); omega
  have hmod : 0 ≤ wr .u64 n % 30 ∧ wr .u64 n % 30 < 30 := ⟨Int.emod_nonneg _ (by omega), Int.emod_lt_of_pos _ (by omega)⟩
  have hul : u.length ≤ 30 := by rw [hu]; have := own_len (x :: r) key (wr .u64 n % 30); omega
  have okl : (∃ l_1 : List Hst, List.map hstD (x :: r) = List.map hstD l_1 ∧ l_1.length ≤ 1000 ∧ ∀ (h : Hst), List.Mem h l_1 → h.small) ∧ key.size ≤ 9223372036854775807 := ⟨⟨x :: r, rfl, by omega, h2⟩, by omega⟩
  have okl2 : ∃ l_1 : List Hst, List.map hstD (x :: r) = List.map hstD l_1 ∧ l_1.length ≤ 4398046511104 ∧ ∀ (h : Hst), List.Mem h l_1 → h.small := ⟨x :: r, rfl, by omega, h2⟩
  rw [map_dHst, e1, List.length_map, hlg, htb, ← hu, ← hv, hone, List.length_map, List.length_map]
  have c1 : ((u.length : Nat) : Int) = min (wr .u64 n % 30) (((x :: r).length : Nat) : Int) := hul2
  exact ⟨okl2, fun t => (by cases t), fun _ => ⟨fun t => (by cases t), fun _ => ⟨okl2, rfl, hwr, by omega, inkQ (by omega), by omega, by omega, by simp, rfl, ⟨⟨[x], rfl, by simp, fun h hm => h2 h (by rw [List.mem_singleton.1 hm]; exact List.mem_cons_self ..)⟩, by omega⟩, okl, okl, fun t => (by cases t), fun _ => ⟨x, by omega, rfl, fun t => absurd rfl (of_decide_eq_true t), fun _ => ⟨fun t => absurd c1 (of_decide_eq_true t), fun _ => ⟨decide_eq_false (fun h => h (congrArg Int.ofNat hvl)), 0, ⟨Nat.zero_le _, by omega, hpre⟩, ⟨rfl, rfl, by rw [hp], by rw [hq], rfl, rfl⟩, fun _ _ => ⟨okl, fun _ => ⟨trivial, rfl⟩, fun t => absurd (by rw [own_take]; rfl) (of_decide_eq_false t)⟩⟩⟩⟩⟩⟩⟩
theorem ringAlone_law {x0 : List D} (o0 : OkL reachBytes [.sl true [.int .i64, .str, .int .i64, .str, .int .i64, .sl true [.str, .str]]] x0) {x1 : List D} (o1 : OkL reachBytes [.str] x1) {x2 : List D} (o2 : OkL reachBytes [.int .i64] x2) : DataFun Tryd.prog 6 [vOf false x0, vOf false x1, vOf false x2] (.bool true) := by
  obtain ⟨f, l, rfl, hl, hlen⟩ := okl1_hosts o0
  obtain ⟨key, rfl⟩ := okl1_strQ o1
  obtain ⟨n, rfl, _⟩ := okl1_int o2
  have h2 : ∀ h ∈ l, h.small := fun h hm => (hl h hm).1
  show DataFun Tryd.prog 6 [.sl f (l.map hstD), .str key, .int .i64 n] (.bool true)
  by_cases hb : lgtB l key = false ∨ l = [] ∨ (tbB [] l && decide ((l.length : Int) ≤ 64)) = false
  · exact dataFun0 (C := raCf0) (ctrs_ok raC rfl rfl) rfl Tryd.func6 (by kernel_rfl) (by kernel_rfl) (by kernel_rfl) rfl (by kernel_rfl) (raN0 f l key n hlen h2 hb)
  · have hlg : lgtB l key = true := by
      cases h : lgtB l key with
      | true => rfl
      | false => exact absurd (.inl h) hb
    have htb : (tbB [] l && decide ((l.length : Int) ≤ 64)) = true := by
      cases h : (tbB [] l && decide ((l.length : Int) ≤ 64)) with
      | true => rfl
      | false => exact absurd (.inr (.inr h)) hb
    obtain ⟨x, r, rfl⟩ : ∃ x r, l = x :: r := by
      cases l with
      | nil => exact absurd (.inr (.inl rfl)) hb
      | cons x r => exact ⟨x, r, rfl⟩
    obtain ⟨hm, _, hinc⟩ := tbB_spec (x :: r) [] ((Bool.and_eq_true _ _).mp htb).1
    have hn : ((x :: r).map (·.id)).Nodup := hinc.imp fun h => by omega
    have hwr : 0 ≤ wr .u64 n % 30 := Int.emod_nonneg _ (by omega)
    have hone : owrV [x] key = some x.id := by
      rw [owr_head]
      have hm1 : ∀ h ∈ [x], mayH h = true := fun h hh => hm h (by rw [List.mem_singleton.1 hh]; exact List.mem_cons_self ..)
      have l1 := allV_len hm1 (by simp) key
      have m1 := allV_mem hm1 key
      match e : allV [x] key, l1 with
      | [y], _ =>
        have := (m1 y).1 (by rw [e]; exact List.mem_cons_self ..)
        rw [List.map_cons, List.map_nil, List.mem_singleton] at this
        rw [this]; rfl
    have hall := allV_len hm hn key
    have hv := own_all hm hn key
    exact dataFunL (C := raCf f (x :: r) key (ownV (x :: r) key (wr .u64 n % 30)).isEmpty (ownV (x :: r) key (x :: r).length).isEmpty (ownV (x :: r) key (wr .u64 n % 30)) (ownV (x :: r) key (x :: r).length)) (ctrs_ok raC rfl rfl) rfl Tryd.func6 (by kernel_rfl) (l := [lp Tryd.f6 10]) (by kernel_rfl) (fun z hz => by
      rw [List.mem_singleton.1 hz]
      exact (raL f (x :: r) key _ _ _ _).fits 10 [] (by kernel_rfl) rfl (raR f (x :: r) key _ _ _ _)) (by kernel_rfl) rfl (by kernel_rfl) (raN f x r key n _ _ _ _ (lgt_iff hlg).1 h2 hlg htb rfl rfl rfl rfl hone
        (by rw [own_take, List.length_take, hall]; omega) (by rw [hv, hall]) (by rw [hv, own_take]; exact List.take_prefix _ _))
end Go.Proofs.YtfclelafcdcilaaDoor.Dv
