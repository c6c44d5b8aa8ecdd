/- What is computed whole; the known words of a seat. -/
import Derived.Test.YtfclelafcdcilaaW
import Derived.Test.YtfclelafcdcilaaDvB
set_option linter.unusedVariables false
namespace Go.Proofs.Ytfclelafcdcilaa.Dv
open Go Go.Proofs
/-- Functions that work on their caller's memory. -/
def byrefL : List FuncId := [27, 28, 29, 43, 44, 45, 50, 54, 62, 63, 64, 69, 70, 73, 74, 75, 76, 77, 78, 79, 80, 83, 84, 86, 87, 88]
def badL : List FuncId := [69]
/-- Functions that read their caller's memory and hand out numbers: it is looked that they leave it as it was. -/
def roL : List FuncId := []
noncomputable def M1 : Modes := { good := fun f => decide (2 ≤ f) && decide (f < 89) && !badL.contains f, byref := fun f => byrefL.contains f, ro := fun f => roL.contains f, chk := true, prim := fun _ => none }
noncomputable def goodAt (f : Nat) : Bool := badL.contains f || match Try.prog.funcs[f]? with | some fn => goodFn M1 fn | none => true
theorem good_all : ((List.range (89 - 2)).all fun f => goodAt (f + 2)) = true := by kernel_rfl
set_option maxRecDepth 100000 in
theorem goodM : GoodM Try.prog M1 := by
  intro f fn h hf
  have h' : 2 ≤ f ∧ f < 89 := by
    have : (decide (2 ≤ f) && decide (f < 89) && !badL.contains f) = true := h
    rw [Bool.and_eq_true, Bool.and_eq_true] at this
    exact ⟨of_decide_eq_true this.1.1, of_decide_eq_true this.1.2⟩
  have hlt : f - 2 < 89 - 2 := by have := h'.1; have := h'.2; simp only [FuncId] at *; omega
  have := List.all_eq_true.1 good_all (f - 2) (List.mem_range.2 hlt)
  rw [show f - 2 + 2 = f from Nat.sub_add_cancel h'.1] at this
  have hb : badL.contains f = false := by
    have : (decide (2 ≤ f) && decide (f < 89) && !badL.contains f) = true := h
    rw [Bool.and_eq_true] at this
    exact (Bool.not_eq_true' _).mp this.2
  unfold goodAt at this
  rw [hb, hf] at this
  exact this
theorem primM : PrimOk Try.prog M1 := ⟨fun _ _ => rfl, by intro f p h; cases h⟩
/-- A function that hands out true, computed whole. -/
def awakeC (f : FuncId) (h : (((runN Try.prog M1 60).1 f [] []).bind fun q => frz 0 q.2 q.1) = some (.bool true)) : Ctr := ⟨f, fun vs => match vs with | [] => some ⟨True, .bool true⟩ | _ => none, by
  intro vs o ho _
  split at ho
  · injection ho with ho; subst ho; exact dataFun_run goodM primM mix 60 rfl h
  · cases ho⟩
theorem wf_i64 {n : Int} (h : (Lit.int .i64 n).wf = true) : -9223372036854775808 ≤ n ∧ n ≤ 9223372036854775807 := by
  simp [Lit.wf, IntKind.min, IntKind.max, IntKind.signed, IntKind.bits] at h
  omega
/-- The elements that are looked at. -/
def cods : TypeId → Option Codec
  | 3 => some ⟨Int, iD⟩
  | 4 => some ⟨Bool, fun b => .bool b⟩
  | 33 => some ⟨Int, fun n => .int .u64 n⟩
  | _ => none
def cfgOf (l : List Ctr) : WCfg := { spec := specOf l, cod := cods }
def cfgH (l : List Ctr) (h : List (Nat × Hn)) : WCfg := { spec := specOf l, cod := cods, H := hints h }
theorem list_of {α : Type} {enc : α → D} : ∀ {ys : List D}, (∀ y ∈ ys, ∃ a, y = enc a) → ∃ l : List α, ys = l.map enc
  | [], _ => ⟨[], rfl⟩
  | y :: ys, h => by
    obtain ⟨a, ha⟩ := h y (List.mem_cons_self ..)
    obtain ⟨l, hl⟩ := list_of fun z hz => h z (List.mem_cons_of_mem _ hz)
    exact ⟨a :: l, by rw [ha, hl]; rfl⟩
theorem list_of' {α : Type} {enc : α → D} {p : α → Prop} : ∀ {ys : List D}, (∀ y ∈ ys, ∃ a, y = enc a ∧ p a) → ∃ l : List α, ys = l.map enc ∧ ∀ x ∈ l, p x
  | [], _ => ⟨[], rfl, by simp⟩
  | y :: ys, h => by
    obtain ⟨a, ha, hp⟩ := h y (List.mem_cons_self ..)
    obtain ⟨l, hl, hq⟩ := list_of' fun z hz => h z (List.mem_cons_of_mem _ hz)
    exact ⟨a :: l, by rw [ha, hl]; rfl, by
      intro x hx
      rcases List.mem_cons.1 hx with rfl | hx
      · exact hp
      · exact hq x hx⟩
def bD (b : Bool) : D := .bool b
theorem ok1_bool {x : List D} (h : Ok [.bool] x) : ∃ b, x = [.bool b] := by cases h with | bool t => cases t; exact ⟨_, rfl⟩
theorem ok1_int {x : List D} (h : Ok [.int .i64] x) : ∃ n, x = [.int .i64 n] ∧ -9223372036854775808 ≤ n ∧ n ≤ 9223372036854775807 := by cases h with | int k t => cases t; exact ⟨_, rfl, wf_i64 k⟩
theorem ok_bools {ys : List D} (h1 : ∀ y ∈ ys, y.isAgg = false) (h2 : ∀ y ∈ ys, Ok [.bool] y.cells) : ∃ l : List Bool, ys = l.map bD := by
  refine list_of fun y hy => ?_
  have := h2 y hy
  rw [cells_flat (h1 y hy)] at this
  cases this with | bool t => exact ⟨_, rfl⟩
theorem ok_ints {ys : List D} (h1 : ∀ y ∈ ys, y.isAgg = false) (h2 : ∀ y ∈ ys, Ok [.int .i64] y.cells) : ∃ l : List Int, ys = l.map iD ∧ ∀ x ∈ l, -9223372036854775808 ≤ x ∧ x ≤ 9223372036854775807 := by
  refine list_of' fun y hy => ?_
  have := h2 y hy
  rw [cells_flat (h1 y hy)] at this
  cases this with | int h t => exact ⟨_, rfl, wf_i64 h⟩
/-- No slice is longer than memory is wide. -/
abbrev LIM : Nat := reachBytes
theorem lim_le : reachBytes ≤ maxLen := by decide
theorem lim_val : reachBytes = 140737488351232 := rfl
theorem okl1_int {B : Nat} {x : List D} (h : OkL B [.int .i64] x) : ∃ n, x = [.int .i64 n] ∧ -9223372036854775808 ≤ n ∧ n ≤ 9223372036854775807 := by cases h with | int k t => cases t; exact ⟨_, rfl, wf_i64 k⟩
theorem okl1_bool {B : Nat} {x : List D} (h : OkL B [.bool] x) : ∃ b, x = [.bool b] := by cases h with | bool t => cases t; exact ⟨_, rfl⟩
theorem okl1_str {B : Nat} {x : List D} (h : OkL B [.str] x) : ∃ s, x = [.str s] ∧ s.size ≤ B := by cases h with | str k t => cases t; exact ⟨_, rfl, k⟩
/-- A row of numbers. -/
theorem okl1_ints {x : List D} (h : OkL reachBytes [.sl false [.int .i64]] x) : ∃ (f : Bool) (l : List Int), x = [.sl f (l.map iD)] ∧ (∀ x ∈ l, -9223372036854775808 ≤ x ∧ x ≤ 9223372036854775807) ∧ l.length ≤ 17592186043904 := by
  cases h with | sl hl h0 h1 h2 t =>
  cases t
  obtain ⟨l, rfl, hl'⟩ := ok_ints h1 fun y hy => (h2 y hy).ok lim_le
  refine ⟨_, l, rfl, hl', ?_⟩
  rw [List.length_map, lim_val] at hl
  have : lksB [LK.int .i64] = 8 := rfl
  rw [this] at hl
  omega
theorem okl1_bools {x : List D} (h : OkL reachBytes [.sl false [.bool]] x) : ∃ (f : Bool) (l : List Bool), x = [.sl f (l.map bD)] ∧ l.length ≤ 140737488351232 := by
  cases h with | sl hl h0 h1 h2 t =>
  cases t
  obtain ⟨l, rfl⟩ := ok_bools h1 fun y hy => (h2 y hy).ok lim_le
  refine ⟨_, l, rfl, ?_⟩
  rw [List.length_map, lim_val] at hl
  have : lksB [LK.bool] = 1 := rfl
  rw [this] at hl
  omega
end Go.Proofs.Ytfclelafcdcilaa.Dv
