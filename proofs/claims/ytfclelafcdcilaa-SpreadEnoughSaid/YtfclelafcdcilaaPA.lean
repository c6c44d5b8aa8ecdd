/- Who is bad: the plain law. -/
import Derived.Test.YtfclelafcdcilaaP9
import Derived.Test.YtfclelafcdcilaaC1
import Derived.Test.YtfclelafcdcilaaD1
set_option linter.unusedVariables false
set_option linter.unusedSimpArgs false
namespace Go.Proofs.Ytfclelafcdcilaa.Dv
open Go Go.Proofs
/-- A host, and how its requests went: its number, those that were well, all. -/
abbrev Rtd := Int × Int × Int
def rtD (r : Rtd) : D := .agg [.int .i64 r.1, .int .i64 r.2.1, .int .i64 r.2.2]
def dRt : D → Rtd
  | .agg [.int _ a, .int _ b, .int _ c] => (a, b, c)
  | _ => (0, 0, 0)
theorem map_dRt (l : List Rtd) : (l.map rtD).map dRt = l := by rw [List.map_map]; exact (List.map_congr_left fun x _ => rfl).trans (List.map_id l)
theorem pure_rtD (l : List Rtd) : (l.map rtD).all D.pure = true := by rw [List.all_eq_true]; intro x hx; obtain ⟨n, _, rfl⟩ := List.mem_map.1 hx; rfl
theorem okEl_rtD (l : List Rtd) : (l.map rtD).all (okEl 3) = true := by rw [List.all_eq_true]; intro x hx; obtain ⟨n, _, rfl⟩ := List.mem_map.1 hx; rfl
def rtR (x : Rtd) : Int := rateB x.2.1 x.2.2
def idK (x : Rtd) : Ky := (x.1, 0)
def mayM (l : List Rtd) : Bool := l.all (fun x => mayB x.2.1 x.2.2) && (decide (l.length ≤ 64) && risK (sortK (l.map idK)))
def enB (c : Cfg) (l : List Rtd) : List Rtd := l.filter fun x => enoughB x.2.1 x.2.2 c.requests
def farL (c : Cfg) (e : List Rtd) : List Bool := if 0 < c.factor ∧ c.hosts ≤ (e.length : Int) then farV c.factor (e.map rtR) else List.replicate e.length false
def isBad (c : Cfg) (p : Rtd × Bool) : Bool := p.2 || failB p.1.2.1 p.1.2.2 c.fails
def badKs (c : Cfg) (e : List Rtd) (F : List Bool) : List Ky := ((e.zip F).filter (isBad c)).map fun p => (rtR p.1, p.1.1)
def badV (c : Cfg) (l : List Rtd) : List Int := if mayCfg c = true ∧ mayM l = true then (sortK (badKs c (enB c l) (farL c (enB c l)))).map (·.2) else []
theorem farI_pos' {S Q n f r : Int} (h : farI S Q n f r = true) : 0 < S - n * r := by
  unfold farI at h
  split at h
  · assumption
  · cases h
theorem cmpI_pos' {p q : Int} : 0 < cmpI p q ↔ q < p := by
  unfold cmpI
  split
  · omega
  · split <;> omega
theorem rtR_in (x : Rtd) : 0 ≤ rtR x ∧ rtR x ≤ 10000 := by
  unfold rtR rateB
  split
  · omega
  · split
    · omega
    · rename_i h1 h2
      have h1 : mayB x.2.1 x.2.2 = true := by simpa using h1
      obtain ⟨a, b, c⟩ := mayB_t h1
      refine ⟨Int.ediv_nonneg (by omega) (by omega), ?_⟩
      exact Int.ediv_le_of_le_mul (by omega) (by omega)
theorem farL_len (c : Cfg) (e : List Rtd) : (farL c e).length = e.length := by
  unfold farL
  split
  · unfold farV; rw [List.length_map, List.length_map]
  · exact List.length_replicate
theorem map_fst_idK (l : List Rtd) : (l.map idK).map (·.1) = l.map (·.1) := by rw [List.map_map]; rfl
theorem nodup_idK (l : List Rtd) : (l.map idK).Nodup ↔ (l.map (·.1)).Nodup := by
  rw [← map_fst_idK]
  unfold List.Nodup
  rw [List.pairwise_map (f := fun x : Ky => x.1), List.pairwise_map, List.pairwise_map]
  constructor
  · intro h
    refine h.imp fun {a b} hab => ?_
    intro e
    exact hab (Prod.ext e rfl)
  · intro h
    exact h.imp fun {a b} hab e => hab (congrArg (·.1) e)
theorem mayM_iff (l : List Rtd) : mayM l = true ↔ (∀ x ∈ l, mayB x.2.1 x.2.2 = true) ∧ l.length ≤ 64 ∧ (l.map (·.1)).Nodup := by
  unfold mayM
  rw [Bool.and_eq_true, Bool.and_eq_true, List.all_eq_true, decide_eq_true_eq, risK_iff (sortK_srt _), (sortK_perm _).nodup_iff, nodup_idK]
/-- A greater factor tells no more. -/
theorem farI_fac {S Q n f f' r : Int} (h0 : 0 ≤ f) (h1 : f ≤ f') (h : farI S Q n f' r = true) : farI S Q n f r = true := by
  have hp := farI_pos' h
  unfold farI at h ⊢
  rw [if_pos hp] at h ⊢
  have h2 := cmpI_pos'.1 (of_decide_eq_true h)
  refine decide_eq_true (cmpI_pos'.2 (Int.lt_of_le_of_lt ?_ h2))
  have hf : f * f ≤ f' * f' := Int.mul_le_mul h1 h1 h0 (by omega)
  unfold pr
  exact Int.mul_le_mul_of_nonneg_right (by omega) (by omega)
theorem filter_zip_le (c d : Cfg) (hf : c.fails = d.fails) : ∀ (e : List Rtd) (F G : List Bool), F.length = e.length → G.length = e.length → (∀ i : Nat, G[i]? = some true → F[i]? = some true) → ((e.zip G).filter (isBad d)).length ≤ ((e.zip F).filter (isBad c)).length
  | [], F, G, _, _, _ => by simp
  | x :: e, f :: F, g :: G, h1, h2, h => by
    have ih := filter_zip_le c d hf e F G (by simpa using h1) (by simpa using h2) (fun i hi => h (i + 1) hi)
    rw [List.zip_cons_cons, List.zip_cons_cons, List.filter_cons, List.filter_cons]
    have hb : isBad d (x, g) = true → isBad c (x, f) = true := by
      unfold isBad
      simp only [hf, Bool.or_eq_true]
      rintro (hg | hg)
      · left
        have := h 0 (by simp only [List.getElem?_cons_zero]; exact congrArg some hg)
        simpa using this
      · exact .inr hg
    split
    · rename_i hd
      rw [if_pos (hb hd), List.length_cons, List.length_cons]; omega
    · split
      · rw [List.length_cons]; omega
      · exact ih
  | x :: e, [], G, h1, _, _ => by simp at h1
  | x :: e, f :: F, [], _, h2, _ => by simp at h2
theorem farL_fac {c d : Cfg} (h0 : 0 < c.factor) (h1 : c.factor ≤ d.factor) (hh : c.hosts = d.hosts) (e : List Rtd) (i : Nat) (h : (farL d e)[i]? = some true) : (farL c e)[i]? = some true := by
  unfold farL at h ⊢
  split at h
  · rename_i hd
    rw [if_pos ⟨h0, by rw [hh]; exact hd.2⟩]
    unfold farV at h ⊢
    rw [List.getElem?_map] at h ⊢
    cases hx : (List.map rtR e)[i]? with
    | none => rw [hx] at h; cases h
    | some x =>
      rw [hx] at h
      simp only [Option.map_some, Option.some.injEq] at h ⊢
      exact farI_fac (by omega) h1 h
  · have := List.mem_of_getElem? h
    have := List.eq_of_mem_replicate this
    cases this
theorem badKs_len (c : Cfg) (e : List Rtd) (F : List Bool) : (badKs c e F).length = ((e.zip F).filter (isBad c)).length := List.length_map ..
/-- Of a greater factor no more are told. -/
theorem badV_fac {c d : Cfg} (hc : mayCfg c = true) (h0 : 0 < c.factor) (h1 : c.factor ≤ d.factor) (h2 : c.hosts = d.hosts) (h3 : c.fails = d.fails) (h4 : c.requests = d.requests) (l : List Rtd) : (badV d l).length ≤ (badV c l).length := by
  by_cases hd : mayCfg d = true ∧ mayM l = true
  · have e1 : badV d l = (sortK (badKs d (enB d l) (farL d (enB d l)))).map (·.2) := if_pos hd
    have e2 : badV c l = (sortK (badKs c (enB c l) (farL c (enB c l)))).map (·.2) := if_pos ⟨hc, hd.2⟩
    have he : enB d l = enB c l := by unfold enB; rw [h4]
    rw [e1, e2, List.length_map, List.length_map, sortK_len, sortK_len, badKs_len, badKs_len, he]
    exact filter_zip_le c d h3 _ _ _ (farL_len ..) (farL_len ..) (fun i hi => farL_fac h0 h1 h2 _ i hi)
  · have e1 : badV d l = [] := if_neg hd
    rw [e1]; exact Nat.zero_le _
/-- Those that fail are told, and of those alone that have enough. -/
theorem bad_between (c : Cfg) : ∀ (e : List Rtd) (F : List Bool), F.length = e.length → (e.filter fun x => failB x.2.1 x.2.2 c.fails).length ≤ ((e.zip F).filter (isBad c)).length ∧ ((e.zip F).filter (isBad c)).length ≤ e.length
  | [], F, h => by simp
  | x :: e, f :: F, h => by
    have ih := bad_between c e F (by simpa using h)
    rw [List.zip_cons_cons, List.filter_cons, List.filter_cons, List.length_cons]
    have hb : failB x.2.1 x.2.2 c.fails = true → isBad c (x, f) = true := fun h => by unfold isBad; simp [h]
    split
    · rename_i hx
      rw [if_pos (hb hx), List.length_cons, List.length_cons]
      omega
    · split
      · rw [List.length_cons]; omega
      · omega
  | x :: e, [], h => by simp at h
theorem bad_none (c : Cfg) : ∀ (e : List Rtd), ((e.zip (List.replicate e.length false)).filter (isBad c)).length = (e.filter fun x => failB x.2.1 x.2.2 c.fails).length
  | [] => rfl
  | x :: e => by
    rw [List.length_cons, List.replicate_succ, List.zip_cons_cons, List.filter_cons, List.filter_cons]
    have hb : isBad c (x, false) = failB x.2.1 x.2.2 c.fails := rfl
    rw [hb]
    split
    · rw [List.length_cons, List.length_cons, bad_none c e]
    · exact bad_none c e
/-- The key of one that is told. -/
theorem badKs_mem {c : Cfg} {l : List Rtd} {F : List Bool} {k : Ky} (h : k ∈ badKs c (enB c l) F) : ∃ x ∈ l, enoughB x.2.1 x.2.2 c.requests = true ∧ k = (rtR x, x.1) := by
  unfold badKs at h
  obtain ⟨p, hp, rfl⟩ := List.mem_map.1 h
  have h1 := (List.mem_filter.1 hp).1
  have h2 := (List.of_mem_zip h1).1
  unfold enB at h2
  obtain ⟨h3, h4⟩ := List.mem_filter.1 h2
  exact ⟨p.1, h3, h4, rfl⟩
theorem zip_sub : ∀ (e : List Rtd) (F : List Bool), ((e.zip F).map fun p => p.1.1).Sublist (e.map (·.1))
  | [], F => by simp
  | x :: e, [] => by simp
  | x :: e, f :: F => by
    rw [List.zip_cons_cons, List.map_cons, List.map_cons]
    exact (zip_sub e F).cons_cons _
theorem badKs_nodup {c : Cfg} {l : List Rtd} {F : List Bool} (h : (l.map (·.1)).Nodup) : ((badKs c (enB c l) F).map (·.2)).Nodup := by
  unfold badKs
  rw [List.map_map]
  have h1 : (((enB c l).zip F).filter (isBad c)).map ((fun x : Ky => x.2) ∘ fun p : Rtd × Bool => (rtR p.1, p.1.1)) = (((enB c l).zip F).filter (isBad c)).map fun p => p.1.1 := rfl
  rw [h1]
  have h2 : ((((enB c l).zip F).filter (isBad c)).map fun p => p.1.1).Sublist (l.map (·.1)) :=
    ((List.filter_sublist).map _).trans ((zip_sub _ _).trans ((List.filter_sublist).map _))
  exact h.sublist h2
end Go.Proofs.Ytfclelafcdcilaa.Dv
