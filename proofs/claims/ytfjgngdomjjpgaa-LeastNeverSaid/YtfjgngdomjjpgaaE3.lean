/- Never the busier one: the law. -/
import Derived.Test.YtfjgngdomjjpgaaE2
set_option linter.unusedVariables false
set_option linter.unusedSimpArgs false
namespace Go.Proofs.Ytfjgngdomjjpgaa.Dv
open Go Go.Proofs
def ids (l : List Bz) : List Int := l.map Bz.id
/-- Each of the later ones is unlike all ahead of it. -/
def newIds : List Bz → List Bz → Bool
  | _, [] => true
  | d, x :: r => !(ids d).contains x.id && newIds (d ++ [x]) r
def nevT (f : Bool) (l : List Bz) (i j : Int) (k : Nat) : List (Nat × D) := [(0, .sl f (l.map Bz.toD)), (1, .int .i64 i), (2, .int .i64 j), (25, .sl f (l.map Bz.toD)), (26, .int .i64 l.length), (27, .int .i64 k)]
def nevO (f : Bool) (l : List Bz) (i j : Int) : List (Nat × D) := [(0, .sl f (l.map Bz.toD)), (1, .int .i64 i), (2, .int .i64 j)]
def nev1 (f : Bool) (i j : Int) : WLoop := { St := List Bz × List Bz, O := Bool × List Bz, T := fun s => nevT f (s.1 ++ s.2) i j s.1.length, ok := fun s => s.1.length + s.2.length ≤ 60, μ := fun s => s.2.length, m := fun s => (newIds s.1 s.2, s.1 ++ s.2)
                                             outs := [{ α := List Bz, is := fun o a => o = (true, a), ex := .exit 0, T := fun a => nevO f a i j }, { α := Unit, is := fun o _ => o.1 = false, ex := .ret, T := fun _ => [(6, .bool true)] }] }
/-- The inner loop: over those ahead of x. -/
def nev2 (f : Bool) (i j : Int) (l : List Bz) (x : Bz) (k : Nat) : WLoop := { St := List Bz × List Bz, O := Bool
                                                                              T := fun s => nevT f l i j k ++ [(8, .ptr 0 0 0), (34, .sl (f && decide (k = l.length)) ((s.1 ++ s.2).map Bz.toD)), (35, .int .i64 (s.1 ++ s.2).length), (36, .int .i64 s.1.length)]
                                                                              S := fun _ => [some (.row .own 3 [x.toD])], ok := fun s => s.1.length + s.2.length ≤ 60, μ := fun s => s.2.length, m := fun s => !(ids s.2).contains x.id, src := [(0, true)]
                                                                              outs := [{ α := Unit, is := fun o _ => o = true, ex := .exit 2, T := fun _ => nevT f l i j k }, { α := Unit, is := fun o _ => o = false, ex := .ret, T := fun _ => [(6, .bool true)] }] }
theorem nev2R (f : Bool) (i j : Int) (l : List Bz) (x : Bz) (k : Nat) (s : (nev2 f i j l x k).St) (hs : (nev2 f i j l x k).ok s) : Tri Try.prog 0 153 (lp Try.f5 7) (tb ((nev2 f i j l x k).T s)) ((nev2 f i j l x k).S s) ((nev2 f i j l x k).q 0 s) := by
  obtain ⟨done, rest⟩ := s
  have h1 : done.length + rest.length ≤ 60 := hs
  cases rest with
  | nil =>
    refine round0 (C := cfgE lawC22 [(37, .f)]) (ctrs_ok lawC22 rfl rfl) (by kernel_rfl) (by kernel_rfl) (q := decide ((↑done.length : Int) < (↑(done ++ []).length : Int)) = false ∧ ∃ (a : Unit), true = true ∧ D.sl f (List.map Bz.toD l) = D.sl f (List.map Bz.toD l) ∧ D.int IntKind.i64 i = D.int IntKind.i64 i ∧ D.int IntKind.i64 j = D.int IntKind.i64 j ∧ D.sl f (List.map Bz.toD l) = D.sl f (List.map Bz.toD l) ∧ D.int IntKind.i64 (↑l.length : Int) = D.int IntKind.i64 (↑l.length : Int) ∧ D.int IntKind.i64 (↑k : Int) = D.int IntKind.i64 (↑k : Int)) (by kernel_rfl) ?_
    exact ⟨by simp, (), rfl, rfl, rfl, rfl, rfl, rfl, rfl⟩
  | cons y rest =>
    refine round0 (C := cfgE lawC22 [(37, .t)]) (ctrs_ok lawC22 rfl rfl) (by kernel_rfl) (by kernel_rfl) (q := decide ((↑done.length : Int) < (↑(done ++ y :: rest).length : Int)) = true ∧ ∃ (y_1 : Bz), (0 : Int) ≤ (↑done.length : Int) ∧ (List.map Bz.toD (done ++ y :: rest))[(↑done.length : Int).toNat]? = some (D.agg [D.int IntKind.i64 y_1.id, D.int IntKind.i64 y_1.w, D.int IntKind.i64 y_1.a]) ∧ (decide (x.id = y_1.id) = true → True ∧ ∃ (a : Unit), (!(ids (y :: rest)).contains x.id) = false ∧ D.bool true = D.bool true) ∧ (decide (x.id = y_1.id) = false → inK IntKind.i64 ((↑done.length : Int) + (1 : Int)) ∧ ∃ (s' : List Bz × List Bz), s'.fst.length + s'.snd.length ≤ (60 : Nat) ∧ s'.snd.length.succ ≤ (y :: rest).length ∧ (!(ids s'.snd).contains x.id) = !(ids (y :: rest)).contains x.id ∧ (D.sl f (List.map Bz.toD l) = D.sl f (List.map Bz.toD l) ∧ D.int IntKind.i64 i = D.int IntKind.i64 i ∧ D.int IntKind.i64 j = D.int IntKind.i64 j ∧ D.sl f (List.map Bz.toD l) = D.sl f (List.map Bz.toD l) ∧ D.int IntKind.i64 (↑l.length : Int) = D.int IntKind.i64 (↑l.length : Int) ∧ D.int IntKind.i64 (↑k : Int) = D.int IntKind.i64 (↑k : Int) ∧ D.ptr (0 : Nat) (0 : Nat) (0 : Nat) = D.ptr (0 : Nat) (0 : Nat) (0 : Nat) ∧ D.sl (f && decide (k = l.length)) (List.map Bz.toD (s'.fst ++ s'.snd)) = D.sl (f && decide (k = l.length)) (List.map Bz.toD (done ++ y :: rest)) ∧ D.int IntKind.i64 (↑(s'.fst ++ s'.snd).length : Int) = D.int IntKind.i64 (↑(done ++ y :: rest).length : Int) ∧ D.int IntKind.i64 (↑s'.fst.length : Int) = D.int IntKind.i64 ((↑done.length : Int) + (1 : Int))) ∧ (some (Ob.row St.own (3 : Nat) [D.agg [D.int IntKind.i64 x.id, D.int IntKind.i64 x.w, D.int IntKind.i64 x.a]]) = none ∨ some (Ob.row St.own (3 : Nat) [D.agg [D.int IntKind.i64 x.id, D.int IntKind.i64 x.w, D.int IntKind.i64 x.a]]) = some (Ob.row St.own (3 : Nat) [D.agg [D.int IntKind.i64 x.id, D.int IntKind.i64 x.w, D.int IntKind.i64 x.a]]) ∧ true = true))) (by kernel_rfl) ?_
    simp only [List.length_cons] at h1
    refine ⟨by simp; omega, y, by omega, get_midI Bz.toD _ _ _, chks (fun h => ⟨trivial, (), by simp [ids, h], rfl⟩) fun h => ⟨by simp only [inK]; omega, (done ++ [y], rest), by simp; omega, by simp, ?_, ?_, .inr ⟨rfl, rfl⟩⟩⟩
    · simp only [ids, List.map_cons, List.contains_cons]
      rw [show (x.id == y.id) = false by simpa using h, Bool.false_or]
    · simp
def nevCfg1 (f : Bool) (i j : Int) (l : List Bz) (x : Bz) (k : Nat) : WCfg := { cfgE lawC22 [(28, .t)] with loops := fun n => match n with | 7 => some ((nev2 f i j l x k).row [(0, true)]) | _ => none }
theorem nev1R (f : Bool) (i j : Int) (s : (nev1 f i j).St) (hs : (nev1 f i j).ok s) : Tri Try.prog 0 153 (lp Try.f5 4) (tb ((nev1 f i j).T s)) ((nev1 f i j).S s) ((nev1 f i j).q 0 s) := by
  obtain ⟨done, rest⟩ := s
  have h1 : done.length + rest.length ≤ 60 := hs
  cases rest with
  | nil =>
    refine roundL (C := cfgE lawC22 [(28, .f)]) (ctrs_ok lawC22 rfl rfl) (by kernel_rfl) (l := [lp Try.f5 7]) (by kernel_rfl) (fun x _ row hr => by cases hr) (q := decide ((↑done.length : Int) < (↑(done ++ []).length : Int)) = false ∧ ∃ (a : List Bz), (true, done ++ []) = (true, a) ∧ D.sl f (List.map Bz.toD a) = D.sl f (List.map Bz.toD (done ++ [])) ∧ D.int IntKind.i64 i = D.int IntKind.i64 i ∧ D.int IntKind.i64 j = D.int IntKind.i64 j) (by kernel_rfl) ?_
    exact ⟨by simp, _, rfl, by simp, rfl, rfl⟩
  | cons x rest =>
    refine roundL (C := nevCfg1 f i j (done ++ x :: rest) x done.length) (ctrs_ok lawC22 rfl rfl) (by kernel_rfl) (l := [lp Try.f5 7]) (by kernel_rfl) ?_ (q := decide ((↑done.length : Int) < (↑(done ++ x :: rest).length : Int)) = true ∧ ∃ (y : Bz), (0 : Int) ≤ (↑done.length : Int) ∧ (List.map Bz.toD (done ++ x :: rest))[(↑done.length : Int).toNat]? = some (D.agg [D.int IntKind.i64 y.id, D.int IntKind.i64 y.w, D.int IntKind.i64 y.a]) ∧ (0 : Int) ≤ (↑done.length : Int) ∧ (0 : Nat) ≤ (↑done.length : Int).toNat ∧ (↑done.length : Int).toNat ≤ (List.map Bz.toD (done ++ x :: rest)).length ∧ ((List.drop (0 : Nat) (List.take (↑done.length : Int).toNat (List.map Bz.toD (done ++ x :: rest)))).all fun (y : D) => y.cells.length == (ti Try.prog (43 : Nat)).sz) = true ∧ ∃ (b : List Bz × List Bz), b.fst.length + b.snd.length ≤ (60 : Nat) ∧ ((D.sl f (List.map Bz.toD (done ++ x :: rest)) = D.sl f (List.map Bz.toD (done ++ x :: rest)) ∧ D.int IntKind.i64 i = D.int IntKind.i64 i ∧ D.int IntKind.i64 j = D.int IntKind.i64 j ∧ D.sl f (List.map Bz.toD (done ++ x :: rest)) = D.sl f (List.map Bz.toD (done ++ x :: rest)) ∧ D.int IntKind.i64 (↑(done ++ x :: rest).length : Int) = D.int IntKind.i64 (↑(done ++ x :: rest).length : Int) ∧ D.int IntKind.i64 (↑done.length : Int) = D.int IntKind.i64 (↑done.length : Int) ∧ D.ptr (0 : Nat) (0 : Nat) (0 : Nat) = D.ptr (0 : Nat) (0 : Nat) (0 : Nat) ∧ D.sl (f && decide (done.length = (done ++ x :: rest).length)) (List.map Bz.toD (b.fst ++ b.snd)) = D.sl (f && decide ((↑done.length : Int).toNat = (List.map Bz.toD (done ++ x :: rest)).length)) (List.drop (0 : Nat) (List.take (↑done.length : Int).toNat (List.map Bz.toD (done ++ x :: rest)))) ∧ D.int IntKind.i64 (↑(b.fst ++ b.snd).length : Int) = D.int IntKind.i64 (↑(List.drop (0 : Nat) (List.take (↑done.length : Int).toNat (List.map Bz.toD (done ++ x :: rest)))).length : Int) ∧ D.int IntKind.i64 (↑b.fst.length : Int) = D.int IntKind.i64 (0 : Int)) ∧ (some (Ob.row St.own (3 : Nat) [D.agg [D.int IntKind.i64 x.id, D.int IntKind.i64 x.w, D.int IntKind.i64 x.a]]) = none ∨ some (Ob.row St.own (3 : Nat) [D.agg [D.int IntKind.i64 x.id, D.int IntKind.i64 x.w, D.int IntKind.i64 x.a]]) = some (Ob.row St.own (3 : Nat) [D.agg [D.int IntKind.i64 y.id, D.int IntKind.i64 y.w, D.int IntKind.i64 y.a]]) ∧ true = true)) ∧ (∀ (a : Unit), (!(ids b.snd).contains x.id) = true → inK IntKind.i64 ((↑done.length : Int) + (1 : Int)) ∧ ∃ (s' : List Bz × List Bz), s'.fst.length + s'.snd.length ≤ (60 : Nat) ∧ s'.snd.length.succ ≤ (x :: rest).length ∧ (newIds s'.fst s'.snd, s'.fst ++ s'.snd) = (newIds done (x :: rest), done ++ x :: rest) ∧ D.sl f (List.map Bz.toD (s'.fst ++ s'.snd)) = D.sl f (List.map Bz.toD (done ++ x :: rest)) ∧ D.int IntKind.i64 i = D.int IntKind.i64 i ∧ D.int IntKind.i64 j = D.int IntKind.i64 j ∧ D.sl f (List.map Bz.toD (s'.fst ++ s'.snd)) = D.sl f (List.map Bz.toD (done ++ x :: rest)) ∧ D.int IntKind.i64 (↑(s'.fst ++ s'.snd).length : Int) = D.int IntKind.i64 (↑(done ++ x :: rest).length : Int) ∧ D.int IntKind.i64 (↑s'.fst.length : Int) = D.int IntKind.i64 ((↑done.length : Int) + (1 : Int))) ∧ ∀ (a : Unit), (!(ids b.snd).contains x.id) = false → ∃ (a : Unit), newIds done (x :: rest) = false ∧ D.bool true = D.bool true) (by kernel_rfl) ?_
    · intro c hc
      rw [List.mem_singleton.1 hc]
      exact (nev2 f i j (done ++ x :: rest) x done.length).fits 7 [(0, true)] (by kernel_rfl) rfl (nev2R f i j _ x _)
    simp only [List.length_cons] at h1
    have et : List.take done.length (List.map Bz.toD (done ++ x :: rest)) = List.map Bz.toD done := by rw [List.map_append, List.take_append_of_le_length (by simp), List.take_of_length_le (by simp)]
    refine ⟨by simp; omega, x, by omega, get_midI Bz.toD _ _ _, by omega, by omega, by simp, ?_, ([], done), by simp; omega, ⟨⟨rfl, rfl, rfl, rfl, rfl, rfl, rfl, ?_, ?_, rfl⟩, .inr ⟨rfl, rfl⟩⟩, ?_, ?_⟩
    · rw [Int.toNat_natCast, et, List.drop_zero, List.all_eq_true]
      intro y hy
      obtain ⟨z, _, rfl⟩ := List.mem_map.1 hy
      kernel_rfl
    · rw [Int.toNat_natCast, et]; simp
    · rw [Int.toNat_natCast, et]; simp
    · intro _ hc
      refine ⟨by simp only [inK]; omega, (done ++ [x], rest), by simp; omega, by simp, ?_, by simp, rfl, rfl, by simp, by simp, by simp⟩
      have hc' : (ids done).contains x.id = false := by simpa using hc
      show (newIds (done ++ [x]) rest, _) = (newIds done (x :: rest), _)
      rw [show newIds done (x :: rest) = (!(ids done).contains x.id && newIds (done ++ [x]) rest) from rfl, hc']
      simp
    · intro _ hc
      refine ⟨(), ?_, rfl⟩
      rw [show newIds done (x :: rest) = (!(ids done).contains x.id && newIds (done ++ [x]) rest) from rfl, hc, Bool.false_and]
def nevCfg (f : Bool) (i j : Int) : WCfg := { cfgE lawC22 [(19, .f), (23, .f), (49, .w), (58, .w), (54, .n), (68, .n), (92, .f), (97, .f), (102, .f), (119, .f), (137, .t), (150, .t)] with loops := fun n => match n with | 4 => some ((nev1 f i j).row []) | _ => none }
theorem newIds_ok : ∀ {d r : List Bz}, (ids d).Nodup → newIds d r = true → (ids (d ++ r)).Nodup
  | d, [], hd, _ => by simpa using hd
  | d, x :: r, hd, h => by
    rw [show newIds d (x :: r) = (!(ids d).contains x.id && newIds (d ++ [x]) r) from rfl, Bool.and_eq_true] at h
    have hx : x.id ∉ ids d := by have := h.1; simpa using this
    have := newIds_ok (d := d ++ [x]) (r := r) (by
      unfold ids at *
      rw [List.map_append, List.nodup_append]
      refine ⟨hd, by simp, ?_⟩
      intro a ha b hb
      simp only [List.map_cons, List.map_nil, List.mem_singleton] at hb
      rintro rfl
      exact hx (hb ▸ ha)) h.2
    simpa using this
theorem nevN (f : Bool) (l : List Bz) {i j : Int} (h2 : 2 ≤ l.length) (h60 : l.length ≤ 60) (hl : ∀ x ∈ l, x.ok) : decide ((↑(List.map Bz.toD l).length : Int) < (2 : Int)) = false ∧ decide ((60 : Int) < (↑(List.map Bz.toD l).length : Int)) = false ∧ ∃ (b : List Bz × List Bz), b.fst.length + b.snd.length ≤ (60 : Nat) ∧ (D.sl f (List.map Bz.toD (b.fst ++ b.snd)) = D.sl f (List.map Bz.toD l) ∧ D.int IntKind.i64 i = D.int IntKind.i64 i ∧ D.int IntKind.i64 j = D.int IntKind.i64 j ∧ D.sl f (List.map Bz.toD (b.fst ++ b.snd)) = D.sl f (List.map Bz.toD l) ∧ D.int IntKind.i64 (↑(b.fst ++ b.snd).length : Int) = D.int IntKind.i64 (↑(List.map Bz.toD l).length : Int) ∧ D.int IntKind.i64 (↑b.fst.length : Int) = D.int IntKind.i64 (0 : Int)) ∧ (∀ (a : List Bz), (newIds b.fst b.snd, b.fst ++ b.snd) = (true, a) → inK IntKind.u64 (↑(List.map Bz.toD a).length : Int) ∧ (0 : Int) ≤ wr IntKind.u64 i ∧ (0 : Int) < (↑(List.map Bz.toD a).length : Int) ∧ inK IntKind.i64 (wr IntKind.u64 i % (↑(List.map Bz.toD a).length : Int)) ∧ ∀ (v : Int), v = wr IntKind.u64 i % (↑(List.map Bz.toD a).length : Int) → inK IntKind.i64 (v + (1 : Int)) ∧ inK IntKind.i64 ((↑(List.map Bz.toD a).length : Int) - (1 : Int)) ∧ inK IntKind.u64 ((↑(List.map Bz.toD a).length : Int) - (1 : Int)) ∧ (0 : Int) ≤ wr IntKind.u64 j ∧ (0 : Int) < (↑(List.map Bz.toD a).length : Int) - (1 : Int) ∧ inK IntKind.i64 (wr IntKind.u64 j % ((↑(List.map Bz.toD a).length : Int) - (1 : Int))) ∧ inK IntKind.i64 (v + (1 : Int) + wr IntKind.u64 j % ((↑(List.map Bz.toD a).length : Int) - (1 : Int))) ∧ (0 : Int) ≤ v + (1 : Int) + wr IntKind.u64 j % ((↑(List.map Bz.toD a).length : Int) - (1 : Int)) ∧ (0 : Int) < (↑(List.map Bz.toD a).length : Int) ∧ ∀ (v_1 : Int), v_1 = (v + (1 : Int) + wr IntKind.u64 j % ((↑(List.map Bz.toD a).length : Int) - (1 : Int))) % (↑(List.map Bz.toD a).length : Int) → (decide (v < v_1) = true → inK IntKind.i64 (v_1 - (1 : Int)) ∧ (rI (↑(List.map Bz.toD a).length : Int) ∧ rI v ∧ rI (v_1 - (1 : Int))) ∧ (List.map Bz.toD a = List.map Bz.toD (List.map dBz (List.map Bz.toD a)) ∧ (List.map Bz.toD a).length ≤ (9223372036854775807 : Nat) ∧ (∀ (x : Bz), List.Mem x (List.map dBz (List.map Bz.toD a)) → rI x.id ∧ rI x.w ∧ rI x.a) ∧ rI v ∧ rI (v_1 - (1 : Int))) ∧ (!(pickM (List.map dBz (List.map Bz.toD a)) v (v_1 - (1 : Int))).snd) = false ∧ decide ((twoM (↑(List.map Bz.toD a).length : Int) v (v_1 - (1 : Int))).fst ≠ v) = false ∧ decide ((twoM (↑(List.map Bz.toD a).length : Int) v (v_1 - (1 : Int))).snd ≠ v_1) = false ∧ ∃ (y : Bz), (0 : Int) ≤ v ∧ (List.map Bz.toD a)[v.toNat]? = some (D.agg [D.int IntKind.i64 y.id, D.int IntKind.i64 y.w, D.int IntKind.i64 y.a]) ∧ (decide ((pickM (List.map dBz (List.map Bz.toD a)) v (v_1 - (1 : Int))).fst ≠ y.id) = true → ∃ (y : Bz), (0 : Int) ≤ v_1 ∧ (List.map Bz.toD a)[v_1.toNat]? = some (D.agg [D.int IntKind.i64 y.id, D.int IntKind.i64 y.w, D.int IntKind.i64 y.a]) ∧ decide ((pickM (List.map dBz (List.map Bz.toD a)) v (v_1 - (1 : Int))).fst ≠ y.id) = false ∧ ∃ (y : Bz), (0 : Int) ≤ v ∧ (List.map Bz.toD a)[v.toNat]? = some (D.agg [D.int IntKind.i64 y.id, D.int IntKind.i64 y.w, D.int IntKind.i64 y.a]) ∧ (decide ((pickM (List.map dBz (List.map Bz.toD a)) v (v_1 - (1 : Int))).fst = y.id) = true → ∃ (y : Bz), (0 : Int) ≤ v_1 ∧ (List.map Bz.toD a)[v_1.toNat]? = some (D.agg [D.int IntKind.i64 y.id, D.int IntKind.i64 y.w, D.int IntKind.i64 y.a]) ∧ ∃ (y_1 : Bz), (0 : Int) ≤ v ∧ (List.map Bz.toD a)[v.toNat]? = some (D.agg [D.int IntKind.i64 y_1.id, D.int IntKind.i64 y_1.w, D.int IntKind.i64 y_1.a]) ∧ (rI y.w ∧ rI y_1.w) ∧ (!lessM y y_1) = true ∧ True ∧ D.bool true = D.bool true) ∧ (decide ((pickM (List.map dBz (List.map Bz.toD a)) v (v_1 - (1 : Int))).fst = y.id) = false → ∃ (y : Bz), (0 : Int) ≤ v ∧ (List.map Bz.toD a)[v.toNat]? = some (D.agg [D.int IntKind.i64 y.id, D.int IntKind.i64 y.w, D.int IntKind.i64 y.a]) ∧ ∃ (y_1 : Bz), (0 : Int) ≤ v_1 ∧ (List.map Bz.toD a)[v_1.toNat]? = some (D.agg [D.int IntKind.i64 y_1.id, D.int IntKind.i64 y_1.w, D.int IntKind.i64 y_1.a]) ∧ (rI y.w ∧ rI y_1.w) ∧ (!lessM y y_1) = true ∧ True ∧ D.bool true = D.bool true)) ∧ (decide ((pickM (List.map dBz (List.map Bz.toD a)) v (v_1 - (1 : Int))).fst ≠ y.id) = false → ∃ (y : Bz), (0 : Int) ≤ v ∧ (List.map Bz.toD a)[v.toNat]? = some (D.agg [D.int IntKind.i64 y.id, D.int IntKind.i64 y.w, D.int IntKind.i64 y.a]) ∧ (decide ((pickM (List.map dBz (List.map Bz.toD a)) v (v_1 - (1 : Int))).fst = y.id) = true → ∃ (y : Bz), (0 : Int) ≤ v_1 ∧ (List.map Bz.toD a)[v_1.toNat]? = some (D.agg [D.int IntKind.i64 y.id, D.int IntKind.i64 y.w, D.int IntKind.i64 y.a]) ∧ ∃ (y_1 : Bz), (0 : Int) ≤ v ∧ (List.map Bz.toD a)[v.toNat]? = some (D.agg [D.int IntKind.i64 y_1.id, D.int IntKind.i64 y_1.w, D.int IntKind.i64 y_1.a]) ∧ (rI y.w ∧ rI y_1.w) ∧ (!lessM y y_1) = true ∧ True ∧ D.bool true = D.bool true) ∧ (decide ((pickM (List.map dBz (List.map Bz.toD a)) v (v_1 - (1 : Int))).fst = y.id) = false → ∃ (y : Bz), (0 : Int) ≤ v ∧ (List.map Bz.toD a)[v.toNat]? = some (D.agg [D.int IntKind.i64 y.id, D.int IntKind.i64 y.w, D.int IntKind.i64 y.a]) ∧ ∃ (y_1 : Bz), (0 : Int) ≤ v_1 ∧ (List.map Bz.toD a)[v_1.toNat]? = some (D.agg [D.int IntKind.i64 y_1.id, D.int IntKind.i64 y_1.w, D.int IntKind.i64 y_1.a]) ∧ (rI y.w ∧ rI y_1.w) ∧ (!lessM y y_1) = true ∧ True ∧ D.bool true = D.bool true))) ∧ (decide (v < v_1) = false → (rI (↑(List.map Bz.toD a).length : Int) ∧ rI v ∧ rI v_1) ∧ (List.map Bz.toD a = List.map Bz.toD (List.map dBz (List.map Bz.toD a)) ∧ (List.map Bz.toD a).length ≤ (9223372036854775807 : Nat) ∧ (∀ (x : Bz), List.Mem x (List.map dBz (List.map Bz.toD a)) → rI x.id ∧ rI x.w ∧ rI x.a) ∧ rI v ∧ rI v_1) ∧ (!(pickM (List.map dBz (List.map Bz.toD a)) v v_1).snd) = false ∧ decide ((twoM (↑(List.map Bz.toD a).length : Int) v v_1).fst ≠ v) = false ∧ decide ((twoM (↑(List.map Bz.toD a).length : Int) v v_1).snd ≠ v_1) = false ∧ ∃ (y : Bz), (0 : Int) ≤ v ∧ (List.map Bz.toD a)[v.toNat]? = some (D.agg [D.int IntKind.i64 y.id, D.int IntKind.i64 y.w, D.int IntKind.i64 y.a]) ∧ (decide ((pickM (List.map dBz (List.map Bz.toD a)) v v_1).fst ≠ y.id) = true → ∃ (y : Bz), (0 : Int) ≤ v_1 ∧ (List.map Bz.toD a)[v_1.toNat]? = some (D.agg [D.int IntKind.i64 y.id, D.int IntKind.i64 y.w, D.int IntKind.i64 y.a]) ∧ decide ((pickM (List.map dBz (List.map Bz.toD a)) v v_1).fst ≠ y.id) = false ∧ ∃ (y : Bz), (0 : Int) ≤ v ∧ (List.map Bz.toD a)[v.toNat]? = some (D.agg [D.int IntKind.i64 y.id, D.int IntKind.i64 y.w, D.int IntKind.i64 y.a]) ∧ (decide ((pickM (List.map dBz (List.map Bz.toD a)) v v_1).fst = y.id) = true → ∃ (y : Bz), (0 : Int) ≤ v_1 ∧ (List.map Bz.toD a)[v_1.toNat]? = some (D.agg [D.int IntKind.i64 y.id, D.int IntKind.i64 y.w, D.int IntKind.i64 y.a]) ∧ ∃ (y_1 : Bz), (0 : Int) ≤ v ∧ (List.map Bz.toD a)[v.toNat]? = some (D.agg [D.int IntKind.i64 y_1.id, D.int IntKind.i64 y_1.w, D.int IntKind.i64 y_1.a]) ∧ (rI y.w ∧ rI y_1.w) ∧ (!lessM y y_1) = true ∧ True ∧ D.bool true = D.bool true) ∧ (decide ((pickM (List.map dBz (List.map Bz.toD a)) v v_1).fst = y.id) = false → ∃ (y : Bz), (0 : Int) ≤ v ∧ (List.map Bz.toD a)[v.toNat]? = some (D.agg [D.int IntKind.i64 y.id, D.int IntKind.i64 y.w, D.int IntKind.i64 y.a]) ∧ ∃ (y_1 : Bz), (0 : Int) ≤ v_1 ∧ (List.map Bz.toD a)[v_1.toNat]? = some (D.agg [D.int IntKind.i64 y_1.id, D.int IntKind.i64 y_1.w, D.int IntKind.i64 y_1.a]) ∧ (rI y.w ∧ rI y_1.w) ∧ (!lessM y y_1) = true ∧ True ∧ D.bool true = D.bool true)) ∧ (decide ((pickM (List.map dBz (List.map Bz.toD a)) v v_1).fst ≠ y.id) = false → ∃ (y : Bz), (0 : Int) ≤ v ∧ (List.map Bz.toD a)[v.toNat]? = some (D.agg [D.int IntKind.i64 y.id, D.int IntKind.i64 y.w, D.int IntKind.i64 y.a]) ∧ (decide ((pickM (List.map dBz (List.map Bz.toD a)) v v_1).fst = y.id) = true → ∃ (y : Bz), (0 : Int) ≤ v_1 ∧ (List.map Bz.toD a)[v_1.toNat]? = some (D.agg [D.int IntKind.i64 y.id, D.int IntKind.i64 y.w, D.int IntKind.i64 y.a]) ∧ ∃ (y_1 : Bz), (0 : Int) ≤ v ∧ (List.map Bz.toD a)[v.toNat]? = some (D.agg [D.int IntKind.i64 y_1.id, D.int IntKind.i64 y_1.w, D.int IntKind.i64 y_1.a]) ∧ (rI y.w ∧ rI y_1.w) ∧ (!lessM y y_1) = true ∧ True ∧ D.bool true = D.bool true) ∧ (decide ((pickM (List.map dBz (List.map Bz.toD a)) v v_1).fst = y.id) = false → ∃ (y : Bz), (0 : Int) ≤ v ∧ (List.map Bz.toD a)[v.toNat]? = some (D.agg [D.int IntKind.i64 y.id, D.int IntKind.i64 y.w, D.int IntKind.i64 y.a]) ∧ ∃ (y_1 : Bz), (0 : Int) ≤ v_1 ∧ (List.map Bz.toD a)[v_1.toNat]? = some (D.agg [D.int IntKind.i64 y_1.id, D.int IntKind.i64 y_1.w, D.int IntKind.i64 y_1.a]) ∧ (rI y.w ∧ rI y_1.w) ∧ (!lessM y y_1) = true ∧ True ∧ D.bool true = D.bool true)))) ∧ ∀ (a : Unit), newIds b.fst b.snd = false → D.bool true = D.bool true := by
  simp only [map_dBz]
  refine ⟨by simp; omega, by simp; omega, ([], l), by simpa using h60, ⟨by simp, trivial, trivial, by simp, by simp, by simp⟩, fun a ha => ?_, fun _ _ => trivial⟩
  injection ha with ha1 ha2
  have hnd : (ids l).Nodup := by simpa using newIds_ok (d := []) (r := l) (by simp [ids]) ha1
  have ha2 : a = l := ha2.symm
  subst ha2
  have wi : 0 ≤ wr .u64 i := by simp only [wr]; omega
  have wj : 0 ≤ wr .u64 j := by simp only [wr]; omega
  simp only [List.length_map, inK]
  refine ⟨by omega, wi, by omega, ?_⟩
  have v0 := Int.emod_nonneg (wr .u64 i) (show (a.length : Int) ≠ 0 by omega)
  have v1 := Int.emod_lt_of_pos (wr .u64 i) (show (0 : Int) < a.length by omega)
  refine ⟨by omega, ?_⟩
  intro v hv
  rw [← hv] at v0 v1
  have u0 := Int.emod_nonneg (wr .u64 j) (show (a.length : Int) - 1 ≠ 0 by omega)
  have u1 := Int.emod_lt_of_pos (wr .u64 j) (show (0 : Int) < (a.length : Int) - 1 by omega)
  generalize wr .u64 j % ((a.length : Int) - 1) = u at *
  repeat (refine And.intro (by omega) ?_)
  intro k hk
  have k0 := Int.emod_nonneg (v + 1 + u) (show (a.length : Int) ≠ 0 by omega)
  have k1 := Int.emod_lt_of_pos (v + 1 + u) (show (0 : Int) < a.length by omega)
  have kne : k ≠ v := by
    rcases Int.lt_or_le (v + 1 + u) a.length with h | h
    · rw [Int.emod_eq_of_lt (by omega) h] at hk; omega
    · rw [← Int.sub_emod_right, Int.emod_eq_of_lt (by omega) (by omega)] at hk; omega
  rw [← hk] at k0 k1
  clear hk hv
  obtain ⟨x, hx⟩ : ∃ x, a[v.toNat]? = some x := ⟨_, List.getElem?_eq_getElem (by omega)⟩
  obtain ⟨y, hy⟩ : ∃ y, a[k.toNat]? = some y := ⟨_, List.getElem?_eq_getElem (by omega)⟩
  have ex : (List.map Bz.toD a)[v.toNat]? = some x.toD := by rw [List.getElem?_map, hx]; rfl
  have ey : (List.map Bz.toD a)[k.toNat]? = some y.toD := by rw [List.getElem?_map, hy]; rfl
  have ox : x.ok := hl x (List.mem_of_getElem? hx)
  have oy : y.ok := hl y (List.mem_of_getElem? hy)
  have hne : x.id ≠ y.id := by
    intro he
    obtain ⟨l1, g1⟩ := List.getElem?_eq_some_iff.1 hx
    obtain ⟨l2, g2⟩ := List.getElem?_eq_some_iff.1 hy
    have q1 : (ids a)[v.toNat]'(by simpa [ids] using l1) = x.id := by simp [ids, g1]
    have q2 : (ids a)[k.toNat]'(by simpa [ids] using l2) = y.id := by simp [ids, g2]
    have := (List.getElem_inj (h₀ := by simpa [ids] using l1) (h₁ := by simpa [ids] using l2) hnd).1 (q1.trans (he.trans q2.symm))
    omega
  have asy := lessM_asym hne
  have key : ∀ b : Int, twoM a.length v b = (v, k) → (pickM a v b).2 = true ∧ (pickM a v b).1 = if lessM y x = true then y.id else x.id := by
    intro b hb
    unfold pickM
    rw [if_neg (by rintro rfl; simp at h2), hb]
    simp only [List.getD_eq_getElem?_getD, hx, hy, Option.getD_some]
    cases lessM y x <;> simp
  have tw : ∀ b : Int, 0 ≤ b → b < (a.length : Int) - 1 → (if v ≤ b then b + 1 else b) = k → twoM a.length v b = (v, k) := by
    intro b b0 b1 hb
    unfold twoM
    rw [if_neg (by omega), (drI_mod v (show (1 : Int) ≤ a.length by omega)).1, (drI_mod b (show (1 : Int) ≤ (a.length : Int) - 1 by omega)).1, Int.emod_eq_of_lt v0 v1, Int.emod_eq_of_lt b0 b1, hb]
  have hok : ∀ z : Bz, List.Mem z a → rI z.id ∧ rI z.w ∧ rI z.a := fun z hz => hl z hz
  have fin : ∀ b : Int, -1 ≤ b → b < (a.length : Int) → twoM a.length v b = (v, k) → True := fun _ _ _ _ => trivial
  refine chks (fun hvk => ?_) fun hvk => ?_
  · have t := tw (k - 1) (by omega) (by omega) (by rw [if_pos (by omega)]; omega)
    obtain ⟨p2, p1⟩ := key _ t
    rw [t, p2, p1]
    refine ⟨by omega, ⟨by unfold rI; omega, by unfold rI; omega, by unfold rI; omega⟩, ⟨trivial, by omega, hok, by unfold rI; omega, by unfold rI; omega⟩, rfl, by simp, by simp, x, v0, ex, ?_⟩
    cases hl2 : lessM y x with
    | true =>
      rw [if_pos rfl]
      exact chk (Ne.symm hne) ⟨y, k0, ey, by simp, x, v0, ex, chkn (Ne.symm hne) ⟨x, v0, ex, y, k0, ey, ⟨ox.2.1, oy.2.1⟩, by rw [asy, hl2]; rfl, trivial, trivial⟩⟩
    | false =>
      rw [if_neg (by decide)]
      exact chkn (fun h => h rfl) ⟨x, v0, ex, chk rfl ⟨y, k0, ey, x, v0, ex, ⟨oy.2.1, ox.2.1⟩, by rw [hl2]; rfl, trivial, trivial⟩⟩
  · have t := tw k (by omega) (by omega) (by rw [if_neg (by omega)])
    obtain ⟨p2, p1⟩ := key _ t
    rw [t, p2, p1]
    refine ⟨⟨by unfold rI; omega, by unfold rI; omega, by unfold rI; omega⟩, ⟨trivial, by omega, hok, by unfold rI; omega, by unfold rI; omega⟩, rfl, by simp, by simp, x, v0, ex, ?_⟩
    cases hl2 : lessM y x with
    | true =>
      rw [if_pos rfl]
      exact chk (Ne.symm hne) ⟨y, k0, ey, by simp, x, v0, ex, chkn (Ne.symm hne) ⟨x, v0, ex, y, k0, ey, ⟨ox.2.1, oy.2.1⟩, by rw [asy, hl2]; rfl, trivial, trivial⟩⟩
    | false =>
      rw [if_neg (by decide)]
      exact chkn (fun h => h rfl) ⟨x, v0, ex, chk rfl ⟨y, k0, ey, x, v0, ex, ⟨oy.2.1, ox.2.1⟩, by rw [hl2]; rfl, trivial, trivial⟩⟩
theorem nevSmall (f : Bool) (l : List Bz) {i j : Int} (h : l.length < 2) : decide ((↑(List.map Bz.toD l).length : Int) < (2 : Int)) = true ∧ True ∧ D.bool true = D.bool true := ⟨by simp; omega, trivial, rfl⟩
theorem nevBig (f : Bool) (l : List Bz) {i j : Int} (h : 60 < l.length) : decide ((↑(List.map Bz.toD l).length : Int) < (2 : Int)) = false ∧ decide ((60 : Int) < (↑(List.map Bz.toD l).length : Int)) = true ∧ True ∧ D.bool true = D.bool true := ⟨by simp; omega, by simp; omega, trivial, rfl⟩
theorem leastNever_law {x0 : List D} (o0 : Ok [.sl true [.int .i64, .int .i64, .int .i64]] x0) {x1 : List D} (o1 : Ok [.int .i64] x1) {x2 : List D} (o2 : Ok [.int .i64] x2) : DataFun Try.prog 5 [vOf false x0, vOf false x1, vOf false x2] (.bool true) := by
  cases o0 with | sl hl h1 h2 t =>
  cases t
  rename_i f ys
  obtain ⟨l, rfl, hok⟩ : ∃ l : List Bz, ys = l.map Bz.toD ∧ ∀ x ∈ l, x.ok := by
    refine list_of' fun y hy => ?_
    obtain ⟨b, hb, ho⟩ := bz_of (h2 y hy)
    refine ⟨b, ?_, ho⟩
    have := h1 y hy
    cases y with
    | agg ds => simp only [D.cells] at hb; rw [hb]; rfl
    | _ => cases this
  obtain ⟨i, rfl, _⟩ := ok1_int o1
  obtain ⟨j, rfl, _⟩ := ok1_int o2
  rcases Nat.lt_or_ge l.length 2 with h | h
  · exact dataFunL (C := cfgE lawC22 [(19, .t)]) (ctrs_ok lawC22 rfl rfl) rfl Try.func5 (by kernel_rfl) (l := [lp Try.f5 4]) (by kernel_rfl) (fun x _ row hr => by cases hr) (by kernel_rfl) (by kernel_rfl) (by kernel_rfl) (nevSmall (i := i) (j := j) f l h)
  · rcases Nat.lt_or_ge 60 l.length with h6 | h6
    · exact dataFunL (C := cfgE lawC22 [(19, .f), (23, .t)]) (ctrs_ok lawC22 rfl rfl) rfl Try.func5 (by kernel_rfl) (l := [lp Try.f5 4]) (by kernel_rfl) (fun x _ row hr => by cases hr) (by kernel_rfl) (by kernel_rfl) (by kernel_rfl) (nevBig (i := i) (j := j) f l h6)
    · refine dataFunL (C := nevCfg f i j) (ctrs_ok lawC22 rfl rfl) rfl Try.func5 (by kernel_rfl) (l := [lp Try.f5 4]) (by kernel_rfl) ?_ (by kernel_rfl) (by kernel_rfl) (by kernel_rfl) (nevN (i := i) (j := j) f l h h6 hok)
      intro x hx
      rw [List.mem_singleton.1 hx]
      exact (nev1 f i j).fits 4 [] (by kernel_rfl) rfl (nev1R f i j)
end Go.Proofs.Ytfjgngdomjjpgaa.Dv
