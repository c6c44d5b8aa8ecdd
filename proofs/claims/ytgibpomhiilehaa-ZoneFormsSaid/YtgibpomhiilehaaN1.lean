/- Strings in their order; slices.BinarySearch of strings. -/
import Derived.Test.YtgibpomhiilehaaM2
import Derived.Test.YtgibpomhiilehaaL1
set_option linter.unusedVariables false
set_option linter.unusedSimpArgs false
namespace Go.Proofs.Ytgibpomhiilehaa.Dv
open Go Go.Proofs
theorem bl_irrefl : ∀ x : List UInt8, Op.bytesLess x x = false
  | [] => rfl
  | a :: x => by rw [Op.bytesLess, bl_irrefl x]; simp
theorem bl_trans : ∀ {x y z : List UInt8}, Op.bytesLess x y = true → Op.bytesLess y z = true → Op.bytesLess x z = true
  | _, [], _, h, _ => by simp [Op.bytesLess] at h
  | _, _ :: _, [], _, h => by simp [Op.bytesLess] at h
  | [], _ :: _, _ :: _, _, _ => rfl
  | a :: x, b :: y, c :: z, h1, h2 => by
    simp only [Op.bytesLess, Bool.or_eq_true, decide_eq_true_eq, Bool.and_eq_true, beq_iff_eq, UInt8.lt_iff_toNat_lt] at *
    rcases h1 with h1 | ⟨h1, h1'⟩ <;> rcases h2 with h2 | ⟨h2, h2'⟩
    · left; omega
    · left; rw [← h2]; exact h1
    · left; rw [h1]; exact h2
    · right; exact ⟨h1.trans h2, bl_trans h1' h2'⟩
theorem bl_tri : ∀ {x y : List UInt8}, Op.bytesLess x y = false → Op.bytesLess y x = false → x = y
  | [], [], _, _ => rfl
  | [], _ :: _, h, _ => by simp [Op.bytesLess] at h
  | _ :: _, [], _, h => by simp [Op.bytesLess] at h
  | a :: x, b :: y, h1, h2 => by
    simp only [Op.bytesLess, Bool.or_eq_false_iff, decide_eq_false_iff_not, Bool.and_eq_false_iff, beq_eq_false_iff_ne, UInt8.lt_iff_toNat_lt] at *
    have hab : a = b := UInt8.toNat_inj.1 (by omega)
    subst hab
    rw [bl_tri (h1.2.resolve_left (fun h => h rfl)) (h2.2.resolve_left (fun h => h rfl))]
def lessB (a b : ByteArray) : Bool := Op.bytesLess a.data.toList b.data.toList
theorem lessB_irrefl (a : ByteArray) : lessB a a = false := bl_irrefl _
theorem lessB_trans {a b c : ByteArray} (h1 : lessB a b = true) (h2 : lessB b c = true) : lessB a c = true := bl_trans h1 h2
theorem lessB_tri {a b : ByteArray} (h1 : lessB a b = false) (h2 : lessB b a = false) : a = b := by
  have := bl_tri h1 h2
  exact ByteArray.ext (Array.toList_inj.1 this)
theorem lessB_asymm {a b : ByteArray} (h : lessB a b = true) : lessB b a = false := by
  cases hb : lessB b a with
  | false => rfl
  | true => have := lessB_trans h hb; rw [lessB_irrefl] at this; cases this
def strD (s : ByteArray) : D := .str s
def dStr : D → ByteArray
  | .str s => s
  | _ => .empty
theorem map_dStr (l : List ByteArray) : (l.map strD).map dStr = l := by rw [List.map_map]; exact (List.map_congr_left fun x _ => rfl).trans (List.map_id l)
theorem pure_strD (l : List ByteArray) : (l.map strD).all D.pure = true := by rw [List.all_eq_true]; intro x hx; obtain ⟨n, _, rfl⟩ := List.mem_map.1 hx; rfl
theorem okEl_strD (l : List ByteArray) : (l.map strD).all (okEl 1) = true := by rw [List.all_eq_true]; intro x hx; obtain ⟨n, _, rfl⟩ := List.mem_map.1 hx; rfl
def codsN : TypeId → Option Codec
  | 139 => some ⟨ByteArray × ByteArray, pairD⟩
  | 73 => some ⟨Stat, statD⟩
  | 65 => some ⟨Shr, shD⟩
  | 9 => some ⟨ByteArray, strD⟩
  | 3 => some ⟨Int, iD⟩
  | _ => none
theorem ink {x : Int} (h : -9223372036854775808 ≤ x ∧ x ≤ 9223372036854775807) : inK .i64 x := h
def nCfg (n0 : Nat) (l : List Ctr) (m : List RCtr) (h : List (Nat × Hn)) : WCfg := { spec := specOf l, bspec := bspecOf m, byref := byrefOf m, ro := roOf m, cod := codsN, H := hints h, n0 := n0 }
theorem outD_of {id n : Nat} : ∀ {l : List D}, l.length = n + 1 → outD id l = .ms id 0 (n + 1) (n + 1) false
  | [], h => by simp at h
  | x :: l, h => by unfold outD; rw [h]
theorem outO_of {sz : Nat} : ∀ {l : List D}, l ≠ [] → outO sz l = some (.row .own sz l)
  | [], h => absurd rfl h
  | x :: l, _ => rfl
/-! ### in order -/
def Srt (l : List ByteArray) : Prop := l.Pairwise fun a b => lessB a b = true
def posB (z : ByteArray) (l : List ByteArray) : Nat := (l.filter fun y => lessB y z).length
def hasB (z : ByteArray) (l : List ByteArray) : Bool := l.any fun y => decide (y = z)
theorem hasB_iff {z : ByteArray} {l : List ByteArray} : hasB z l = true ↔ z ∈ l := by
  unfold hasB
  rw [List.any_eq_true]
  constructor
  · rintro ⟨y, hy, h⟩; rw [← of_decide_eq_true h]; exact hy
  · intro h; exact ⟨z, h, decide_eq_true rfl⟩
theorem hasB_not {z : ByteArray} {l : List ByteArray} : hasB z l = false ↔ z ∉ l := by rw [← hasB_iff]; simp
theorem posB_le (z : ByteArray) (l : List ByteArray) : posB z l ≤ l.length := List.length_filter_le ..
theorem srt_split (z : ByteArray) : ∀ {l : List ByteArray}, Srt l → ∃ A B, l = A ++ B ∧ A.length = posB z l ∧ (∀ a ∈ A, lessB a z = true) ∧ (∀ b ∈ B, lessB b z = false) ∧ (z ∈ l ↔ B.head? = some z)
  | [], _ => ⟨[], [], rfl, rfl, by simp, by simp, by simp⟩
  | y :: r, h => by
    obtain ⟨h1, h2⟩ := List.pairwise_cons.1 h
    cases hy : lessB y z with
    | true =>
      obtain ⟨A, B, e, e1, e2, e3, e4⟩ := srt_split z h2
      refine ⟨y :: A, B, by rw [e]; rfl, by unfold posB at *; simp [hy, e1], ?_, e3, ?_⟩
      · intro a ha
        rcases List.mem_cons.1 ha with rfl | ha
        · exact hy
        · exact e2 a ha
      · rw [List.mem_cons, e4]
        constructor
        · rintro (rfl | h)
          · rw [lessB_irrefl] at hy; cases hy
          · exact h
        · exact .inr
    | false =>
      have hr : ∀ b ∈ r, lessB b z = false := by
        intro b hb
        cases hbz : lessB b z with
        | false => rfl
        | true => have := lessB_trans (h1 b hb) hbz; rw [hy] at this; cases this
      refine ⟨[], y :: r, rfl, ?_, by simp, ?_, ?_⟩
      · unfold posB
        have : (y :: r).filter (fun y => lessB y z) = [] := by
          rw [List.filter_eq_nil_iff]
          intro b hb
          rcases List.mem_cons.1 hb with rfl | hb
          · rw [hy]; simp
          · rw [hr b hb]; simp
        rw [this]
      · intro b hb
        rcases List.mem_cons.1 hb with rfl | hb
        · exact hy
        · exact hr b hb
      · rw [List.mem_cons, List.head?_cons, Option.some.injEq]
        constructor
        · rintro (h | h)
          · exact h.symm
          · have := h1 z h; rw [hy] at this; cases this
        · intro h; exact .inl h.symm
/-! ### cmp.Less, slices.BinarySearch -/
def nanS (vs : List D) : Option DOut := match vs with | [.str a] => some ⟨True, .bool false⟩ | _ => none
theorem nanN (a : ByteArray) : D.bool (decide (a ≠ a)) = D.bool false := by simp
theorem nanN' (a : ByteArray) : D.bool (decide (a ≠ a)) = D.bool false := by simp
def nanC : Ctr := ⟨114, nanS, by
  intro vs o ho hp
  unfold nanS at ho
  split at ho
  · rename_i a; injection ho with ho; subst ho
    exact dataFun0 (C := nCfg 0 [] [] []) (ctrs_ok [] rfl rfl) rfl Try.func114 (by kernel_rfl) (by kernel_rfl) (by kernel_rfl) (by kernel_rfl) (by kernel_rfl) (nanN a)
  · cases ho⟩
def nanC' : Ctr := ⟨85, nanS, by
  intro vs o ho hp
  unfold nanS at ho
  split at ho
  · rename_i a; injection ho with ho; subst ho
    exact dataFun0 (C := nCfg 0 [] [] []) (ctrs_ok [] rfl rfl) rfl Try.func85 (by kernel_rfl) (by kernel_rfl) (by kernel_rfl) (by kernel_rfl) (by kernel_rfl) (nanN' a)
  · cases ho⟩
def lesS (vs : List D) : Option DOut := match vs with | [.str a, .str b] => some ⟨True, .bool (lessB a b)⟩ | _ => none
theorem lesN (a b : ByteArray) : True ∧ (false = true → True ∧ (true = true → D.bool true = D.bool (lessB a b)) ∧ (true = false → D.bool (Op.bytesLess a.data.toList b.data.toList) = D.bool (lessB a b))) ∧ (false = false → D.bool (Op.bytesLess a.data.toList b.data.toList) = D.bool (lessB a b)) := by
  exact ⟨trivial, (fun h => by cases h), fun _ => rfl⟩
def lesC : Ctr := ⟨84, lesS, by
  intro vs o ho hp
  unfold lesS at ho
  split at ho
  · rename_i a b; injection ho with ho; subst ho
    exact dataFun0 (C := nCfg 0 [nanC] [] []) (ctrs_ok [nanC] rfl rfl) rfl Try.func84 (by kernel_rfl) (by kernel_rfl) (by kernel_rfl) (by kernel_rfl) (by kernel_rfl) (lesN a b)
  · cases ho⟩
def bsL (f : Bool) (l : List ByteArray) (z : ByteArray) : WLoop :=
  { St := Nat × Nat
    O := Unit
    T := fun s => [(0, .sl f (l.map strD)), (1, .str z), (6, .int .i64 (l.map strD).length), (7, .int .i64 s.1), (8, .int .i64 s.2)]
    ok := fun s => s.1 ≤ posB z l ∧ posB z l ≤ s.2 ∧ s.2 ≤ l.length ∧ l.length ≤ 1000 ∧ Srt l
    μ := fun s => s.2 - s.1
    m := fun _ => ()
    outs := [{ α := Unit, is := fun _ _ => True, ex := .exit 0, T := fun _ => [(0, .sl f (l.map strD)), (1, .str z), (6, .int .i64 (l.map strD).length), (7, .int .i64 (posB z l))] }] }
theorem bsR (f : Bool) (l : List ByteArray) (z : ByteArray) (s : (bsL f l z).St) (hs : (bsL f l z).ok s) : Tri Try.prog 0 54 (lp Try.f47 3) (tb ((bsL f l z).T s)) ((bsL f l z).S s) ((bsL f l z).q 0 s) := by
  obtain ⟨i, j⟩ := s
  obtain ⟨h1, h2, h3, h4, h5⟩ := hs
  simp only at h1 h2 h3
  refine round0 (C := nCfg 0 [lesC] [] []) (ctrs_ok ([lesC]) rfl rfl) (by kernel_rfl) (by kernel_rfl) (q := (decide ((↑i : Int) < (↑j : Int)) = true → inK IntKind.i64 ((↑i : Int) + (↑j : Int)) ∧ inK IntKind.u64 ((↑i : Int) + (↑j : Int)) ∧ (0 : Int) ≤ (1 : Int) ∧ inK IntKind.i64 (shrK IntKind.u64 ((↑i : Int) + (↑j : Int)) (1 : Int)) ∧ ∃ (y : ByteArray), (0 : Int) ≤ shrK IntKind.u64 ((↑i : Int) + (↑j : Int)) (1 : Int) ∧ (List.map strD l)[(shrK IntKind.u64 ((↑i : Int) + (↑j : Int)) (1 : Int)).toNat]? = some (D.str y) ∧ True ∧ (lessB y z = true → inK IntKind.i64 (shrK IntKind.u64 ((↑i : Int) + (↑j : Int)) (1 : Int) + (1 : Int)) ∧ ∃ (s' : Nat × Nat), (s'.fst ≤ posB z l ∧ posB z l ≤ s'.snd ∧ s'.snd ≤ l.length ∧ l.length ≤ (1000 : Nat) ∧ List.Pairwise (fun (a b : ByteArray) => lessB a b = true) l) ∧ (s'.snd - s'.fst).succ ≤ j - i ∧ () = () ∧ D.sl f (List.map strD l) = D.sl f (List.map strD l) ∧ D.str z = D.str z ∧ D.int IntKind.i64 (↑(List.map strD l).length : Int) = D.int IntKind.i64 (↑(List.map strD l).length : Int) ∧ D.int IntKind.i64 (↑s'.fst : Int) = D.int IntKind.i64 (shrK IntKind.u64 ((↑i : Int) + (↑j : Int)) (1 : Int) + (1 : Int)) ∧ D.int IntKind.i64 (↑s'.snd : Int) = D.int IntKind.i64 (↑j : Int)) ∧ (lessB y z = false → ∃ (s' : Nat × Nat), (s'.fst ≤ posB z l ∧ posB z l ≤ s'.snd ∧ s'.snd ≤ l.length ∧ l.length ≤ (1000 : Nat) ∧ List.Pairwise (fun (a b : ByteArray) => lessB a b = true) l) ∧ (s'.snd - s'.fst).succ ≤ j - i ∧ () = () ∧ D.sl f (List.map strD l) = D.sl f (List.map strD l) ∧ D.str z = D.str z ∧ D.int IntKind.i64 (↑(List.map strD l).length : Int) = D.int IntKind.i64 (↑(List.map strD l).length : Int) ∧ D.int IntKind.i64 (↑s'.fst : Int) = D.int IntKind.i64 (↑i : Int) ∧ D.int IntKind.i64 (↑s'.snd : Int) = D.int IntKind.i64 (shrK IntKind.u64 ((↑i : Int) + (↑j : Int)) (1 : Int)))) ∧ (decide ((↑i : Int) < (↑j : Int)) = false → ∃ (a : Unit), True ∧ D.sl f (List.map strD l) = D.sl f (List.map strD l) ∧ D.str z = D.str z ∧ D.int IntKind.i64 (↑(List.map strD l).length : Int) = D.int IntKind.i64 (↑(List.map strD l).length : Int) ∧ D.int IntKind.i64 (↑(posB z l) : Int) = D.int IntKind.i64 (↑i : Int))) (by kernel_rfl) ?_
  have hsh : shrK .u64 ((i : Int) + j) 1 = (((i + j) / 2 : Nat) : Int) := by
    unfold shrK
    rw [show min (1 : Int).toNat IntKind.u64.bits = 1 from rfl]
    omega
  rw [hsh]
  obtain ⟨A, B, e, e1, e2, e3, e4⟩ := srt_split z h5
  refine ⟨fun h => ?_, fun h => ⟨(), trivial, ?_⟩⟩
  · have h := of_decide_eq_true h
    have hlt : (i + j) / 2 < l.length := by omega
    have hget : (List.map strD l)[((((i + j) / 2 : Nat) : Int)).toNat]? = some (strD l[(i + j) / 2]) := by
      rw [Int.toNat_natCast, List.getElem?_map, List.getElem?_eq_getElem hlt]; rfl
    refine ⟨by simp only [inK]; omega, by simp only [inK]; omega, by omega, by simp only [inK]; omega, l[(i + j) / 2], by omega, hget, trivial, fun hy => ⟨by simp only [inK]; omega, ((i + j) / 2 + 1, j), ⟨?_, h2, h3, h4, h5⟩, by simp only; omega, rfl, ?_⟩, fun hy => ⟨(i, (i + j) / 2), ⟨h1, ?_, by simp only; omega, h4, h5⟩, by simp only; omega, rfl, ?_⟩⟩
    · simp only
      rcases Nat.lt_or_ge ((i + j) / 2) (posB z l) with g | g
      · omega
      · have hm : l[(i + j) / 2] ∈ B := by
          have : l[(i + j) / 2] = B[(i + j) / 2 - A.length]'(by have := congrArg List.length e; rw [List.length_append] at this; omega) := by
            simp only [e]
            rw [List.getElem_append_right (by omega)]
          rw [this]; exact List.getElem_mem _
        rw [e3 _ hm] at hy; cases hy
    · refine ⟨rfl, rfl, rfl, by simp, rfl⟩
    · simp only
      rcases Nat.lt_or_ge ((i + j) / 2) (posB z l) with g | g
      · have hm : l[(i + j) / 2] ∈ A := by
          have : l[(i + j) / 2] = A[(i + j) / 2]'(by omega) := by
            simp only [e]
            rw [List.getElem_append_left (by omega)]
          rw [this]; exact List.getElem_mem _
        rw [e2 _ hm] at hy; cases hy
      · exact g
    · refine ⟨rfl, rfl, rfl, rfl, rfl⟩
  · have h := of_decide_eq_false h
    have : posB z l = i := by omega
    refine ⟨rfl, rfl, rfl, by rw [this]⟩
noncomputable def bsCfg (f : Bool) (l : List ByteArray) (z : ByteArray) : WCfg := { nCfg 0 [nanC', lesC] [] [] with loops := fun k => match k with | 3 => some ((bsL f l z).row []) | _ => none }
theorem bsN (f : Bool) (l : List ByteArray) (z : ByteArray) (h : l.length ≤ 1000) (hs : Srt l) : ∃ (b : Nat × Nat), (b.fst ≤ posB z l ∧ posB z l ≤ b.snd ∧ b.snd ≤ l.length ∧ l.length ≤ (1000 : Nat) ∧ List.Pairwise (fun (a b : ByteArray) => lessB a b = true) l) ∧ (D.sl f (List.map strD l) = D.sl f (List.map strD l) ∧ D.str z = D.str z ∧ D.int IntKind.i64 (↑(List.map strD l).length : Int) = D.int IntKind.i64 (↑(List.map strD l).length : Int) ∧ D.int IntKind.i64 (↑b.fst : Int) = D.int IntKind.i64 (0 : Int) ∧ D.int IntKind.i64 (↑b.snd : Int) = D.int IntKind.i64 (↑(List.map strD l).length : Int)) ∧ ∀ (a : Unit), True → (decide ((↑(posB z l) : Int) < (↑(List.map strD l).length : Int)) = true → ∃ (y : ByteArray), (0 : Int) ≤ (↑(posB z l) : Int) ∧ (List.map strD l)[(↑(posB z l) : Int).toNat]? = some (D.str y) ∧ (decide (y = z) = true → D.tup [D.int IntKind.i64 (↑(posB z l) : Int), D.bool true] = D.tup [D.int IntKind.i64 (↑(posB z l) : Int), D.bool (hasB z l)]) ∧ (decide (y = z) = false → ∃ (y : ByteArray), (0 : Int) ≤ (↑(posB z l) : Int) ∧ (List.map strD l)[(↑(posB z l) : Int).toNat]? = some (D.str y) ∧ True ∧ (false = true → True ∧ D.tup [D.int IntKind.i64 (↑(posB z l) : Int), D.bool false] = D.tup [D.int IntKind.i64 (↑(posB z l) : Int), D.bool (hasB z l)]) ∧ (false = false → D.tup [D.int IntKind.i64 (↑(posB z l) : Int), D.bool false] = D.tup [D.int IntKind.i64 (↑(posB z l) : Int), D.bool (hasB z l)]))) ∧ (decide ((↑(posB z l) : Int) < (↑(List.map strD l).length : Int)) = false → D.tup [D.int IntKind.i64 (↑(posB z l) : Int), D.bool false] = D.tup [D.int IntKind.i64 (↑(posB z l) : Int), D.bool (hasB z l)]) := by
  obtain ⟨A, B, e, e1, e2, e3, e4⟩ := srt_split z hs
  have hp := posB_le z l
  have hh : hasB z l = true ↔ B.head? = some z := hasB_iff.trans e4
  refine ⟨(0, l.length), ⟨by omega, hp, Nat.le_refl _, h, hs⟩, ⟨rfl, rfl, rfl, rfl, by rw [List.length_map]⟩, fun _ _ => ⟨fun g => ?_, fun g => ?_⟩⟩
  · have g := of_decide_eq_true g
    rw [List.length_map] at g
    cases B with
    | nil =>
      have := congrArg List.length e
      rw [List.append_nil] at this
      omega
    | cons b B =>
      have hget : (l.map strD)[((posB z l : Nat) : Int).toNat]? = some (strD b) := by rw [Int.toNat_natCast, ← e1, e]; simp
      refine ⟨b, by omega, hget, fun hb => ?_, fun hb => ⟨b, by omega, hget, trivial, (fun h => by cases h), fun _ => ?_⟩⟩
      · rw [hh.2 (by rw [of_decide_eq_true hb]; rfl)]
      · have : hasB z l = false := by
          cases hx : hasB z l with
          | false => rfl
          | true =>
            have := hh.1 hx
            rw [List.head?_cons, Option.some.injEq] at this
            exact absurd this (of_decide_eq_false hb)
        rw [this]
  · have g := of_decide_eq_false g
    rw [List.length_map] at g
    have hB : B = [] := by
      have := congrArg List.length e
      rw [List.length_append] at this
      exact List.eq_nil_of_length_eq_zero (by omega)
    have : hasB z l = false := by
      cases hx : hasB z l with
      | false => rfl
      | true => have := hh.1 hx; rw [hB] at this; cases this
    rw [this]
def bsS (vs : List D) : Option DOut := match vs with | [.sl f xs, .str z] => some ⟨∃ l : List ByteArray, xs = l.map strD ∧ l.length ≤ 1000 ∧ Srt l, .tup [.int .i64 (posB z (xs.map dStr)), .bool (hasB z (xs.map dStr))]⟩ | _ => none
/-- slices.BinarySearch of strings in their order. -/
def bsC : Ctr := ⟨47, bsS, by
  intro vs o ho hp
  unfold bsS at ho
  split at ho
  · rename_i f xs z
    injection ho with ho; subst ho
    obtain ⟨l, rfl, h1, h2⟩ := hp
    simp only [map_dStr]
    refine dataFunL (C := bsCfg f l z) (ctrs_ok [nanC', lesC] rfl rfl) rfl Try.func47 (by kernel_rfl) (l := [lp Try.f47 3]) (by kernel_rfl) ?_ (by kernel_rfl) (by kernel_rfl) (by kernel_rfl) (bsN f l z h1 h2)
    intro x hx
    rw [List.mem_singleton.1 hx]
    exact (bsL f l z).fits 3 [] (by kernel_rfl) rfl (bsR f l z)
  · cases ho⟩
end Go.Proofs.Ytgibpomhiilehaa.Dv
