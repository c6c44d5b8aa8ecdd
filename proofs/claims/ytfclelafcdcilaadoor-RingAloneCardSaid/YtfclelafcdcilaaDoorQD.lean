/- RingFewer. -/
import Derived.Test.YtfclelafcdcilaaDoorQC
set_option linter.unusedVariables false
set_option linter.unusedSimpArgs false
namespace Go.Proofs.YtfclelafcdcilaaDoor.Dv
open Go Go.Proofs
theorem okB_spec : ∀ (r a : List Hst), okB a r = true → (∀ h ∈ r, mayH h = true) ∧ (∀ h ∈ r, ∀ k ∈ a, k.id ≠ h.id) ∧ (r.map (·.id)).Nodup
  | [], a, _ => ⟨fun h hh => by simp at hh, fun h hh => by simp at hh, List.nodup_nil⟩
  | x :: r, a, hk => by
    unfold okB at hk
    rw [Bool.and_eq_true, Bool.and_eq_true, List.all_eq_true] at hk
    obtain ⟨k1, k2, k3⟩ := hk
    obtain ⟨i1, i2, i3⟩ := okB_spec r (a ++ [x]) k3
    refine ⟨fun h hh => ?_, fun h hh k hk => ?_, ?_⟩
    · rcases List.mem_cons.1 hh with rfl | hh
      · exact k1
      · exact i1 h hh
    · rcases List.mem_cons.1 hh with rfl | hh
      · have := k2 k hk; simpa using this
      · exact i2 h hh k (List.mem_append_left _ hk)
    · rw [List.map_cons, List.nodup_cons]
      refine ⟨fun hm => ?_, i3⟩
      obtain ⟨y, hy, e⟩ := List.mem_map.1 hm
      exact i2 y hy x (List.mem_append_right _ (List.mem_singleton.2 rfl)) e.symm
theorem mem_hp {h : Hst} {p : Pt} (hm : p ∈ hp h) : p.2 = h.id := by
  unfold hp at hm
  obtain ⟨u, _, rfl⟩ := List.mem_map.1 hm
  rfl
theorem hp_some {h : Hst} (hm : mayH h = true) : ∃ p ∈ hp h, p.2 = h.id := by
  have hw := ((mayH_iff h).1 hm).2.2.2.2.1
  refine ⟨(withV h.addr 0, h.id), ?_, rfl⟩
  unfold hp ptsV
  rw [if_neg (by omega)]
  exact List.mem_map_of_mem (List.mem_map_of_mem (List.mem_range.2 (by omega)))
theorem ptsOf_id {l : List Hst} (hm : ∀ h ∈ l, mayH h = true) (x : Int) : (∃ p ∈ ptsOf l, p.2 = x) ↔ x ∈ l.map (·.id) := by
  unfold ptsOf
  constructor
  · rintro ⟨p, hp', rfl⟩
    obtain ⟨h, hh, hp''⟩ := List.mem_flatMap.1 hp'
    rw [mem_hp hp'']
    exact List.mem_map_of_mem hh
  · intro hx
    obtain ⟨h, hh, rfl⟩ := List.mem_map.1 hx
    obtain ⟨p, hp1, hp2⟩ := hp_some (hm h hh)
    exact ⟨p, List.mem_flatMap.2 ⟨h, hh, hp1⟩, hp2⟩
theorem allV_mem {l : List Hst} (hm : ∀ h ∈ l, mayH h = true) (key : ByteArray) (x : Int) : x ∈ allV l key ↔ x ∈ l.map (·.id) := by
  rw [← ptsOf_id hm]
  unfold allV
  rw [ddO_mem]
  constructor
  · rintro (h | ⟨p, hp1, e⟩)
    · simp at h
    · exact ⟨p, (srtV_perm swoP _).mem_iff.1 ((rot_perm _ _).mem_iff.1 hp1), e⟩
  · rintro ⟨p, hp1, e⟩
    exact .inr ⟨p, (rot_perm _ _).mem_iff.2 ((srtV_perm swoP _).mem_iff.2 hp1), e⟩
theorem allV_len {l : List Hst} (hm : ∀ h ∈ l, mayH h = true) (hn : (l.map (·.id)).Nodup) (key : ByteArray) : (allV l key).length = l.length := by
  have := ((List.perm_ext_iff_of_nodup (allV_nodup l key) hn).2 fun x => allV_mem hm key x).length_eq
  rw [this, List.length_map]
theorem own_all {l : List Hst} (hm : ∀ h ∈ l, mayH h = true) (hn : (l.map (·.id)).Nodup) (key : ByteArray) : ownV l key l.length = allV l key := by
  rw [own_take, List.take_of_length_le (by rw [allV_len hm hn]; omega)]
theorem fewV_sub : ∀ (g : List Bool) (l : List Hst), (fewV g l).Sublist l
  | [], l => List.Sublist.refl l
  | b :: g, [] => List.Sublist.refl _
  | b :: g, h :: r => by
    show (if b then fewV g r else h :: fewV g r).Sublist (h :: r)
    split
    · exact (fewV_sub g r).cons h
    · exact (fewV_sub g r).cons_cons h
theorem ptsOf_few : ∀ (g : List Bool) (l : List Hst), (l.map (·.id)).Nodup → (ptsOf l).filter (fun p => decide (p.2 ∈ (fewV g l).map (·.id))) = ptsOf (fewV g l)
  | [], l, hn => by
    refine List.filter_eq_self.2 fun p hp' => decide_eq_true ?_
    obtain ⟨h, hh, hp''⟩ := List.mem_flatMap.1 hp'
    rw [mem_hp hp'']
    exact List.mem_map_of_mem hh
  | b :: g, [], hn => rfl
  | b :: g, h :: r, hn => by
    rw [List.map_cons, List.nodup_cons] at hn
    obtain ⟨n1, n2⟩ := hn
    have ih := ptsOf_few g r n2
    have hsub : ∀ x, x ∈ (fewV g r).map (·.id) → x ∈ r.map (·.id) := fun x hx => ((fewV_sub g r).map _).subset hx
    have hpr : ∀ p ∈ ptsOf r, p.2 ∈ r.map (·.id) := fun p hp' => by
      obtain ⟨k, hk, hp''⟩ := List.mem_flatMap.1 hp'
      rw [mem_hp hp'']
      exact List.mem_map_of_mem hk
    have ec : ptsOf (h :: r) = hp h ++ ptsOf r := by unfold ptsOf; rw [List.flatMap_cons]
    rw [ec, List.filter_append]
    cases b with
    | true =>
      show List.filter (fun p => decide (p.2 ∈ (fewV g r).map (·.id))) (hp h) ++ List.filter (fun p => decide (p.2 ∈ (fewV g r).map (·.id))) (ptsOf r) = ptsOf (fewV g r)
      rw [ih, List.filter_eq_nil_iff.2, List.nil_append]
      intro p hp'
      rw [mem_hp hp', decide_eq_true_eq]
      exact fun hx => n1 (hsub _ hx)
    | false =>
      show List.filter (fun p => decide (p.2 ∈ (h :: fewV g r).map (·.id))) (hp h) ++ List.filter (fun p => decide (p.2 ∈ (h :: fewV g r).map (·.id))) (ptsOf r) = ptsOf (h :: fewV g r)
      rw [List.filter_eq_self.2]
      · have e2 : List.filter (fun p => decide (p.2 ∈ (h :: fewV g r).map (·.id))) (ptsOf r) = List.filter (fun p => decide (p.2 ∈ (fewV g r).map (·.id))) (ptsOf r) := by
          refine List.filter_congr fun p hp' => ?_
          rw [decide_eq_decide, List.map_cons, List.mem_cons]
          constructor
          · rintro (e | e)
            · exact absurd (e ▸ hpr p hp') n1
            · exact e
          · exact .inr
        rw [e2, ih]
        unfold ptsOf
        rw [List.flatMap_cons]
      · intro p hp'
        rw [mem_hp hp', decide_eq_true_eq, List.map_cons]
        exact List.mem_cons_self ..
theorem ddO_head (R : List Pt) : (ddO R []).head? = R.head?.map (·.2) := by
  cases R with
  | nil => rfl
  | cons p r =>
    show (ddO r (if p.2 ∈ ([] : List Int) then [] else [] ++ [p.2])).head? = some p.2
    rw [if_neg (by simp)]
    obtain ⟨t, ht⟩ := ddO_pre r ([] ++ [p.2])
    rw [← ht]; rfl
theorem few_law (g : List Bool) {l : List Hst} (hk : okB [] l = true) (key : ByteArray) :
    (ownV l key l.length).length = l.length ∧ (l ≠ [] → (owrV l key).isSome = true) ∧ (owrV (fewV g l) key).isSome = decide (0 < (fewV g l).length) ∧ (ownV l key l.length).find? (fun x => decide (x ∈ (fewV g l).map (·.id))) = owrV (fewV g l) key := by
  obtain ⟨hm, _, hn⟩ := okB_spec l [] hk
  have hsome : ∀ m : List Hst, (∀ h ∈ m, mayH h = true) → (owrV m key).isSome = decide (0 < m.length) := fun m hm' => by
    rw [owr_head]
    cases m with
    | nil =>
      have : allV [] key = [] := by
        have := (allV_len (l := []) (fun h hh => by simp at hh) List.nodup_nil key)
        exact List.length_eq_zero_iff.1 this
      rw [this]; rfl
    | cons h t =>
      have : h.id ∈ allV (h :: t) key := (allV_mem hm' key _).2 (List.mem_map_of_mem (List.mem_cons_self ..))
      match e : allV (h :: t) key, this with
      | x :: r, _ => rfl
  have hm2 : ∀ h ∈ fewV g l, mayH h = true := fun h hh => hm h ((fewV_sub g l).subset hh)
  refine ⟨by rw [own_all hm hn, allV_len hm hn], fun h0 => by rw [hsome l hm]; exact decide_eq_true (List.length_pos_iff.2 h0), hsome _ hm2, ?_⟩
  rw [own_all hm hn, owr_head]
  unfold allV
  rw [ddO_find, ddO_head]
  have e : srtP (fewV g l) = (srtP l).filter fun p => decide (p.2 ∈ (fewV g l).map (·.id)) := by
    unfold srtP
    rw [← ptsOf_few g l hn, srt_filter]
  rw [e, rot_filter _ _ (show srtd (srtP l) from srt_srtd _), List.head?_filter]
  rfl
def rf30 (fw : List Hst) (heir : Int) (is' : Bool) (g : Bool) (all : List Int) : WLoop :=
  { St := List Int × List Int
    O := Unit
    T := fun s => [(11, outD 0 (fw.map hstD)), (16, .int .i64 heir), (17, .bool is'), (119, .sl g (all.map iD)), (120, .int .i64 (all.map iD).length), (121, .int .i64 s.1.length)]
    S := fun s => [outO 6 (fw.map hstD)]
    ok := fun s => s.1 ++ s.2 = all ∧ all.length ≤ 1000 ∧ fw.length ≤ 1000 ∧ (s.2.find? fun x => decide (x ∈ fw.map (·.id))) = if is' then some heir else none
    μ := fun s => s.2.length
    m := fun s => ()
    src := [(0, true)]
    outs := [{ α := Unit, is := fun _ _ => is' = false, ex := .exit 6, src := [], T := fun _ => [(17, .bool is')] }, { α := Unit, is := fun _ _ => True, ex := .ret, src := [], T := fun _ => [(6, .bool true)] }] }
theorem rf30R (fw : List Hst) (heir : Int) (is' : Bool) (g : Bool) (all : List Int) (s : (rf30 fw heir is' g all).St) (hs : (rf30 fw heir is' g all).ok s) : Tri Tryd.prog 0 144 (lp Tryd.f3 30) (tb ((rf30 fw heir is' g all).T s)) ((rf30 fw heir is' g all).S s) ((rf30 fw heir is' g all).q 0 s) := by
  obtain ⟨a, r⟩ := s
  obtain ⟨h1, h2, h3, h4⟩ := hs
  simp only at h1 h2 h4
  subst h1
  cases r with
  | nil =>
    have hA : (List.map iD (a ++ [])).length = a.length := by simp
    have hi : is' = false := by cases is' with | true => cases h4 | false => rfl
    cases fw with
    | nil =>
      refine round0 (C := gCf 0 [] [] [(122, .f)]) (ctrs_ok ([]) rfl rfl) (by kernel_rfl) (by kernel_rfl) (q := decide ((↑a.length : Int) < (↑(List.map iD (a ++ [])).length : Int)) = false ∧ ∃ (a : Unit), is' = false ∧ D.bool is' = D.bool is') (by kernel_rfl) ?_
      exact ⟨decide_eq_false (by omega), (), hi, rfl⟩
    | cons e es =>
      refine round0 (C := gCf 0 [] [] [(122, .f)]) (ctrs_ok ([]) rfl rfl) (by kernel_rfl) (by kernel_rfl) (q := decide ((↑a.length : Int) < (↑(List.map iD (a ++ [])).length : Int)) = false ∧ ∃ (a : Unit), is' = false ∧ D.bool is' = D.bool is') (by kernel_rfl) ?_
      exact ⟨decide_eq_false (by omega), (), hi, rfl⟩
  | cons x r =>
    have hA : (List.map iD (a ++ x :: r)).length = a.length + (r.length + 1) := by simp
    have h2' : a.length + (r.length + 1) ≤ 1000 := by rw [← hA, List.length_map]; exact h2
    have hyes : decide (x ∈ fw.map (·.id)) = true → is' = true ∧ heir = x := fun t => by
      rw [List.find?_cons, t] at h4
      cases is' with
      | true => injection h4 with h4; exact ⟨rfl, h4.symm⟩
      | false => cases h4
    have hno : decide (x ∈ fw.map (·.id)) = false → (r.find? fun x => decide (x ∈ fw.map (·.id))) = if is' then some heir else none := fun t => by
      rw [List.find?_cons, t] at h4
      exact h4
    cases fw with
    | nil =>
      refine round0 (C := gCf 0 rfC [] [(122, .t)]) (ctrs_ok (rfC) rfl rfl) (by kernel_rfl) (by kernel_rfl) (q := decide ((↑a.length : Int) < (↑(List.map iD (a ++ x :: r)).length : Int)) = true ∧ ∃ (y : Int), (0 : Int) ≤ (↑a.length : Int) ∧ (List.map iD (a ++ x :: r))[(↑a.length : Int).toNat]? = some (D.int IntKind.i64 y) ∧ (∃ (l : List Hst), nilT D = List.map hstD l ∧ l.length ≤ (4398046511104 : Nat)) ∧ (false = true → (is' = true → (decide (heir = y) = true → True ∧ ∃ (a : Unit), True ∧ D.bool true = D.bool true) ∧ (decide (heir = y) = false → ∃ (a : Unit), True ∧ D.bool true = D.bool false)) ∧ (is' = false → ∃ (a : Unit), True ∧ D.bool true = D.bool false)) ∧ (false = false → inK IntKind.i64 ((↑a.length : Int) + (1 : Int)) ∧ ∃ (s' : List Int × List Int), (s'.fst ++ s'.snd = a ++ x :: r ∧ (a ++ x :: r).length ≤ (1000 : Nat) ∧ (0 : Nat) ≤ (1000 : Nat) ∧ List.find? (fun (x : Int) => decide (x ∈ List.map (fun (x : Hst) => x.id) [])) s'.snd = if is' = true then some heir else none) ∧ s'.snd.length.succ ≤ (x :: r).length ∧ () = () ∧ (D.sl true [] = D.sl true [] ∧ D.int IntKind.i64 heir = D.int IntKind.i64 heir ∧ D.bool is' = D.bool is' ∧ D.sl g (List.map iD (a ++ x :: r)) = D.sl g (List.map iD (a ++ x :: r)) ∧ D.int IntKind.i64 (↑(List.map iD (a ++ x :: r)).length : Int) = D.int IntKind.i64 (↑(List.map iD (a ++ x :: r)).length : Int) ∧ D.int IntKind.i64 (↑s'.fst.length : Int) = D.int IntKind.i64 ((↑a.length : Int) + (1 : Int))) ∧ ((none : Option Ob) = none ∨ (none : Option Ob) = none ∧ False))) (by kernel_rfl) ?_
      have hf0 : decide (x ∈ List.map (fun x => x.id) ([] : List Hst)) = false := decide_eq_false (by simp)
      exact ⟨decide_eq_true (by omega), x, by omega, get_midI iD a x r, ⟨[], rfl, by simp⟩, ⟨fun t => (by cases t), fun _ => ⟨inkQ (by omega), (a ++ [x], r), ⟨by simp, h2, by omega, hno hf0⟩, Nat.le_refl _, rfl, ⟨rfl, rfl, rfl, rfl, rfl, by simp⟩, .inl rfl⟩⟩⟩
    | cons e es =>
      refine round0 (C := gCf 0 rfC [] [(122, .t)]) (ctrs_ok (rfC) rfl rfl) (by kernel_rfl) (by kernel_rfl) (q := decide ((↑a.length : Int) < (↑(List.map iD (a ++ x :: r)).length : Int)) = true ∧ ∃ (y : Int), (0 : Int) ≤ (↑a.length : Int) ∧ (List.map iD (a ++ x :: r))[(↑a.length : Int).toNat]? = some (D.int IntKind.i64 y) ∧ (0 : Nat) + (List.map hstD (e :: es)).length ≤ (List.map hstD (e :: es)).length ∧ (List.take (List.map hstD (e :: es)).length (List.drop (0 : Nat) (List.map hstD (e :: es)))).all D.pure = true ∧ (∃ (l : List Hst), List.take (List.map hstD (e :: es)).length (List.drop (0 : Nat) (List.map hstD (e :: es))) = List.map hstD l ∧ l.length ≤ (4398046511104 : Nat)) ∧ (decide ((0 : Int) ≤ ixV y (List.map (fun (x : Hst) => x.id) (List.map dHst (List.take (List.map hstD (e :: es)).length (List.drop (0 : Nat) (List.map hstD (e :: es)))))) (0 : Int)) = true → (is' = true → (decide (heir = y) = true → True ∧ ∃ (a : Unit), True ∧ D.bool true = D.bool true) ∧ (decide (heir = y) = false → ∃ (a : Unit), True ∧ D.bool true = D.bool false)) ∧ (is' = false → ∃ (a : Unit), True ∧ D.bool true = D.bool false)) ∧ (decide ((0 : Int) ≤ ixV y (List.map (fun (x : Hst) => x.id) (List.map dHst (List.take (List.map hstD (e :: es)).length (List.drop (0 : Nat) (List.map hstD (e :: es)))))) (0 : Int)) = false → inK IntKind.i64 ((↑a.length : Int) + (1 : Int)) ∧ ∃ (s' : List Int × List Int), (s'.fst ++ s'.snd = a ++ x :: r ∧ (a ++ x :: r).length ≤ (1000 : Nat) ∧ (e :: es).length ≤ (1000 : Nat) ∧ List.find? (fun (x : Int) => decide (x ∈ List.map (fun (x : Hst) => x.id) (e :: es))) s'.snd = if is' = true then some heir else none) ∧ s'.snd.length.succ ≤ (x :: r).length ∧ () = () ∧ (D.ms (0 : Nat) (0 : Nat) (List.map hstD (e :: es)).length (List.map hstD (e :: es)).length false = D.ms (0 : Nat) (0 : Nat) (List.map hstD (e :: es)).length (List.map hstD (e :: es)).length false ∧ D.int IntKind.i64 heir = D.int IntKind.i64 heir ∧ D.bool is' = D.bool is' ∧ D.sl g (List.map iD (a ++ x :: r)) = D.sl g (List.map iD (a ++ x :: r)) ∧ D.int IntKind.i64 (↑(List.map iD (a ++ x :: r)).length : Int) = D.int IntKind.i64 (↑(List.map iD (a ++ x :: r)).length : Int) ∧ D.int IntKind.i64 (↑s'.fst.length : Int) = D.int IntKind.i64 ((↑a.length : Int) + (1 : Int))) ∧ (some (Ob.row St.own (6 : Nat) (List.map hstD (e :: es))) = none ∨ some (Ob.row St.own (6 : Nat) (List.map hstD (e :: es))) = some (Ob.row St.own (6 : Nat) (List.map hstD (e :: es))) ∧ (List.map hstD (e :: es)).all D.pure = true))) (by kernel_rfl) ?_
      have hT : List.take (List.map hstD (e :: es)).length (List.drop 0 (List.map hstD (e :: es))) = List.map hstD (e :: es) := by rw [List.drop_zero, List.take_length]
      have h3' : (e :: es).length ≤ 1000 := h3
      rw [hT, map_dHst]
      refine ⟨decide_eq_true (by omega), x, by omega, get_midI iD a x r, by omega, pure_hstD _, ⟨_, rfl, by omega⟩, fun t => ?_, fun t => ?_⟩
      · rw [ixV_ge _ _ _ (by omega)] at t
        obtain ⟨k1, k2⟩ := hyes t
        subst k1 k2
        exact ⟨fun _ => ⟨fun _ => ⟨trivial, (), trivial, rfl⟩, fun t => absurd rfl (of_decide_eq_false t)⟩, fun t => by cases t⟩
      · rw [ixV_ge _ _ _ (by omega)] at t
        exact ⟨inkQ (by omega), (a ++ [x], r), ⟨by simp, h2, h3', hno t⟩, Nat.le_refl _, rfl, ⟨rfl, rfl, rfl, rfl, rfl, by simp⟩, .inr ⟨rfl, pure_hstD _⟩⟩
noncomputable def rfCf0 : WCfg := { gCf 0 rfC [] [(29, .t)] with unr := fun j => if j = 4 then 1 else if j = 9 then 1 else if j = 17 then 1 else if j = 30 then 1 else 0 }
theorem rfN0 (f : Bool) (l : List Hst) (key : ByteArray) (gf : Bool) (gl : List Bool) (h1 : l.length ≤ 4398046511104) (h2 : ∀ h ∈ l, h.small) (hb : lgtB l key = false ∨ l = []) : (∃ (l_1 : List Hst), List.map hstD l = List.map hstD l_1 ∧ l_1.length ≤ (4398046511104 : Nat) ∧ ∀ (h : Hst), List.Mem h l_1 → h.small) ∧ ((!lgtB (List.map dHst (List.map hstD l)) key) = true → True ∧ D.bool true = D.bool true) ∧ ((!lgtB (List.map dHst (List.map hstD l)) key) = false → decide ((↑(List.map hstD l).length : Int) = (0 : Int)) = true ∧ True ∧ D.bool true = D.bool true) := by
  rw [map_dHst, List.length_map]
  rcases hb with hb | hb
  · rw [hb]
    exact ⟨⟨l, rfl, h1, h2⟩, fun _ => ⟨trivial, rfl⟩, fun h => by cases h⟩
  · subst hb
    exact ⟨⟨[], rfl, h1, h2⟩, fun _ => ⟨trivial, rfl⟩, fun _ => ⟨decide_eq_true rfl, trivial, rfl⟩⟩
noncomputable def rfCf (f : Bool) (l : List Hst) (key : ByteArray) (gf : Bool) (gl : List Bool) (fw : List Hst) (heir : Int) (is' : Bool) (g : Bool) (all : List Int) : WCfg := { gCf 0 rfC [] [(29, .f)] with loops := fun j => match j with | 4 => some ((rf4 f l key gf gl).row []) | 17 => some ((rf17 f l key gf gl).row [(1000, true)]) | 30 => some ((rf30 fw heir is' g all).row [(0, true)]) | _ => none }
theorem rfN1 (f : Bool) (l : List Hst) (key : ByteArray) (gf : Bool) (gl : List Bool) (e : Hst) (es : List Hst) (heir : Int) (is' : Bool) (g : Bool) (all : List Int) (h1 : l.length ≤ 20) (h2 : ∀ h ∈ l, h.small) (hlg : lgtB l key = true) (h0 : l ≠ []) (hf : fewV gl l = (e :: es)) (hh : heir = (owrV (e :: es) key).getD 0) (hi : is' = (owrV (e :: es) key).isSome) (ha : all = ownV l key l.length) (hg : g = all.isEmpty) : (∃ (l_1 : List Hst), List.map hstD l = List.map hstD l_1 ∧ l_1.length ≤ (4398046511104 : Nat) ∧ ∀ (h : Hst), List.Mem h l_1 → h.small) ∧ ((!lgtB (List.map dHst (List.map hstD l)) key) = true → True ∧ D.bool true = D.bool true) ∧ ((!lgtB (List.map dHst (List.map hstD l)) key) = false → decide ((↑(List.map hstD l).length : Int) = (0 : Int)) = false ∧ ∃ (b : List Hst × List Hst), (b.fst ++ b.snd = l ∧ l.length ≤ (4398046511104 : Nat) ∧ ∀ (h : Hst), List.Mem h l → h.small) ∧ (D.sl f (List.map hstD l) = D.sl f (List.map hstD l) ∧ D.str key = D.str key ∧ D.sl gf (List.map bD gl) = D.sl gf (List.map bD gl) ∧ D.sl f (List.map hstD l) = D.sl f (List.map hstD l) ∧ D.int IntKind.i64 (↑(List.map hstD l).length : Int) = D.int IntKind.i64 (↑(List.map hstD l).length : Int) ∧ D.int IntKind.i64 (↑b.fst.length : Int) = D.int IntKind.i64 (0 : Int)) ∧ (∀ (a : Unit), okB b.fst b.snd = true → ∃ (b : List Hst × List Hst × List Hst), (b.fst ++ b.snd.fst = l ∧ l.length ≤ (1000 : Nat) ∧ b.snd.snd = fewV gl b.fst) ∧ ((D.sl f (List.map hstD l) = D.sl f (List.map hstD l) ∧ D.str key = D.str key ∧ D.sl gf (List.map bD gl) = D.sl gf (List.map bD gl) ∧ outD (0 : Nat) (List.map hstD b.snd.snd) = D.sl true [] ∧ D.sl f (List.map hstD l) = D.sl f (List.map hstD l) ∧ D.int IntKind.i64 (↑(List.map hstD l).length : Int) = D.int IntKind.i64 (↑(List.map hstD l).length : Int) ∧ D.int IntKind.i64 (↑b.fst.length : Int) = D.int IntKind.i64 (0 : Int)) ∧ (outO (6 : Nat) (List.map hstD b.snd.snd) = none ∨ outO (6 : Nat) (List.map hstD b.snd.snd) = none ∧ False)) ∧ (∀ (a : Unit), fewV gl l = [] → ((∃ (l_1 : List Hst), List.map hstD l = List.map hstD l_1 ∧ l_1.length ≤ (1000 : Nat) ∧ ∀ (h : Hst), List.Mem h l_1 → h.small) ∧ key.size ≤ (9223372036854775807 : Nat)) ∧ ((∃ (l : List Hst), nilT D = List.map hstD l ∧ l.length ≤ (1000 : Nat) ∧ ∀ (h : Hst), List.Mem h l → h.small) ∧ key.size ≤ (9223372036854775807 : Nat)) ∧ ((!(owrV (List.map dHst (List.map hstD l)) key).isSome) = true → D.bool false = D.bool true) ∧ ((!(owrV (List.map dHst (List.map hstD l)) key).isSome) = false → (false = true → D.bool false = D.bool true) ∧ (false = false → ((∃ (l_1 : List Hst), List.map hstD l = List.map hstD l_1 ∧ l_1.length ≤ (1000 : Nat) ∧ ∀ (h : Hst), List.Mem h l_1 → h.small) ∧ key.size ≤ (9223372036854775807 : Nat)) ∧ (decide ((↑(List.map iD (ownV (List.map dHst (List.map hstD l)) key (↑(List.map hstD l).length : Int))).length : Int) ≠ (↑(List.map hstD l).length : Int)) = true → D.bool false = D.bool true) ∧ (decide ((↑(List.map iD (ownV (List.map dHst (List.map hstD l)) key (↑(List.map hstD l).length : Int))).length : Int) ≠ (↑(List.map hstD l).length : Int)) = false → ∃ (y : Int), (0 : Int) ≤ (0 : Int) ∧ (List.map iD (ownV (List.map dHst (List.map hstD l)) key (↑(List.map hstD l).length : Int)))[(0 : Nat)]? = some (D.int IntKind.i64 y) ∧ (decide (y ≠ (owrV (List.map dHst (List.map hstD l)) key).getD (0 : Int)) = true → D.bool false = D.bool true) ∧ (decide (y ≠ (owrV (List.map dHst (List.map hstD l)) key).getD (0 : Int)) = false → ∃ (b : List Int × List Int), (b.fst ++ b.snd = all ∧ all.length ≤ (1000 : Nat) ∧ (e :: es).length ≤ (1000 : Nat) ∧ List.find? (fun (x : Int) => decide (x ∈ List.map (fun (x : Hst) => x.id) (e :: es))) b.snd = if is' = true then some heir else none) ∧ ((D.ms (0 : Nat) (0 : Nat) (List.map hstD (e :: es)).length (List.map hstD (e :: es)).length false = D.sl true [] ∧ D.int IntKind.i64 heir = D.int IntKind.i64 (none.getD (0 : Int)) ∧ D.bool is' = D.bool false ∧ D.sl g (List.map iD all) = D.sl (ownV (List.map dHst (List.map hstD l)) key (↑(List.map hstD l).length : Int)).isEmpty (List.map iD (ownV (List.map dHst (List.map hstD l)) key (↑(List.map hstD l).length : Int))) ∧ D.int IntKind.i64 (↑(List.map iD all).length : Int) = D.int IntKind.i64 (↑(List.map iD (ownV (List.map dHst (List.map hstD l)) key (↑(List.map hstD l).length : Int))).length : Int) ∧ D.int IntKind.i64 (↑b.fst.length : Int) = D.int IntKind.i64 (0 : Int)) ∧ (some (Ob.row St.own (6 : Nat) (List.map hstD (e :: es))) = none ∨ some (Ob.row St.own (6 : Nat) (List.map hstD (e :: es))) = none ∧ False)) ∧ (∀ (a : Unit), is' = false → ((!is') = true → True ∧ D.bool true = D.bool true) ∧ ((!is') = false → D.bool false = D.bool true)) ∧ ∀ (a : Unit), True → D.bool true = D.bool true))))) ∧ ∀ (a : Hst × List Hst), fewV gl l = a.fst :: a.snd → ((∃ (l_1 : List Hst), List.map hstD l = List.map hstD l_1 ∧ l_1.length ≤ (1000 : Nat) ∧ ∀ (h : Hst), List.Mem h l_1 → h.small) ∧ key.size ≤ (9223372036854775807 : Nat)) ∧ (0 : Nat) + (List.map hstD (a.fst :: a.snd)).length ≤ (List.map hstD (a.fst :: a.snd)).length ∧ (List.take (List.map hstD (a.fst :: a.snd)).length (List.drop (0 : Nat) (List.map hstD (a.fst :: a.snd)))).all D.pure = true ∧ ((∃ (l : List Hst), List.take (List.map hstD (a.fst :: a.snd)).length (List.drop (0 : Nat) (List.map hstD (a.fst :: a.snd))) = List.map hstD l ∧ l.length ≤ (1000 : Nat) ∧ ∀ (h : Hst), List.Mem h l → h.small) ∧ key.size ≤ (9223372036854775807 : Nat)) ∧ ((!(owrV (List.map dHst (List.map hstD l)) key).isSome) = true → D.bool false = D.bool true) ∧ ((!(owrV (List.map dHst (List.map hstD l)) key).isSome) = false → ((!decide ((owrV (List.map dHst (List.take (List.map hstD (a.fst :: a.snd)).length (List.drop (0 : Nat) (List.map hstD (a.fst :: a.snd))))) key).isSome = decide ((0 : Int) < (↑(List.map hstD (a.fst :: a.snd)).length : Int)))) = true → D.bool false = D.bool true) ∧ ((!decide ((owrV (List.map dHst (List.take (List.map hstD (a.fst :: a.snd)).length (List.drop (0 : Nat) (List.map hstD (a.fst :: a.snd))))) key).isSome = decide ((0 : Int) < (↑(List.map hstD (a.fst :: a.snd)).length : Int)))) = false → ((∃ (l_1 : List Hst), List.map hstD l = List.map hstD l_1 ∧ l_1.length ≤ (1000 : Nat) ∧ ∀ (h : Hst), List.Mem h l_1 → h.small) ∧ key.size ≤ (9223372036854775807 : Nat)) ∧ (decide ((↑(List.map iD (ownV (List.map dHst (List.map hstD l)) key (↑(List.map hstD l).length : Int))).length : Int) ≠ (↑(List.map hstD l).length : Int)) = true → D.bool false = D.bool true) ∧ (decide ((↑(List.map iD (ownV (List.map dHst (List.map hstD l)) key (↑(List.map hstD l).length : Int))).length : Int) ≠ (↑(List.map hstD l).length : Int)) = false → ∃ (y : Int), (0 : Int) ≤ (0 : Int) ∧ (List.map iD (ownV (List.map dHst (List.map hstD l)) key (↑(List.map hstD l).length : Int)))[(0 : Nat)]? = some (D.int IntKind.i64 y) ∧ (decide (y ≠ (owrV (List.map dHst (List.map hstD l)) key).getD (0 : Int)) = true → D.bool false = D.bool true) ∧ (decide (y ≠ (owrV (List.map dHst (List.map hstD l)) key).getD (0 : Int)) = false → ∃ (b : List Int × List Int), (b.fst ++ b.snd = all ∧ all.length ≤ (1000 : Nat) ∧ (e :: es).length ≤ (1000 : Nat) ∧ List.find? (fun (x : Int) => decide (x ∈ List.map (fun (x : Hst) => x.id) (e :: es))) b.snd = if is' = true then some heir else none) ∧ ((D.ms (0 : Nat) (0 : Nat) (List.map hstD (e :: es)).length (List.map hstD (e :: es)).length false = D.ms (0 : Nat) (0 : Nat) (List.map hstD (a.fst :: a.snd)).length (List.map hstD (a.fst :: a.snd)).length false ∧ D.int IntKind.i64 heir = D.int IntKind.i64 ((owrV (List.map dHst (List.take (List.map hstD (a.fst :: a.snd)).length (List.drop (0 : Nat) (List.map hstD (a.fst :: a.snd))))) key).getD (0 : Int)) ∧ D.bool is' = D.bool (owrV (List.map dHst (List.take (List.map hstD (a.fst :: a.snd)).length (List.drop (0 : Nat) (List.map hstD (a.fst :: a.snd))))) key).isSome ∧ D.sl g (List.map iD all) = D.sl (ownV (List.map dHst (List.map hstD l)) key (↑(List.map hstD l).length : Int)).isEmpty (List.map iD (ownV (List.map dHst (List.map hstD l)) key (↑(List.map hstD l).length : Int))) ∧ D.int IntKind.i64 (↑(List.map iD all).length : Int) = D.int IntKind.i64 (↑(List.map iD (ownV (List.map dHst (List.map hstD l)) key (↑(List.map hstD l).length : Int))).length : Int) ∧ D.int IntKind.i64 (↑b.fst.length : Int) = D.int IntKind.i64 (0 : Int)) ∧ (some (Ob.row St.own (6 : Nat) (List.map hstD (e :: es))) = none ∨ some (Ob.row St.own (6 : Nat) (List.map hstD (e :: es))) = some (Ob.row St.own (6 : Nat) (List.map hstD (a.fst :: a.snd))) ∧ (List.map hstD (a.fst :: a.snd)).all D.pure = true)) ∧ (∀ (a : Unit), is' = false → ((!is') = true → True ∧ D.bool true = D.bool true) ∧ ((!is') = false → D.bool false = D.bool true)) ∧ ∀ (a : Unit), True → D.bool true = D.bool true))))) ∧ ∀ (a : Unit), okB b.fst b.snd = false → D.bool true = D.bool true) := by
  have hkey := (lgt_iff hlg).2
  have hln : all.length ≤ 20 := by rw [ha]; have := own_len l key l.length; omega
  have hpos : 0 < l.length := List.length_pos_iff.2 h0
  have hLl : (List.map hstD l).length = l.length := List.length_map ..
  have okl : (∃ l_1 : List Hst, List.map hstD l = List.map hstD l_1 ∧ l_1.length ≤ 1000 ∧ ∀ (h : Hst), List.Mem h l_1 → h.small) ∧ key.size ≤ 9223372036854775807 := ⟨⟨l, rfl, by omega, h2⟩, by omega⟩
  rw [map_dHst, List.length_map, List.length_map, ← ha]
  refine ⟨⟨l, rfl, by omega, h2⟩, fun _ => ⟨trivial, rfl⟩, fun _ => ⟨decide_eq_false (by omega), ([], l), ⟨rfl, by omega, h2⟩, ⟨rfl, rfl, rfl, rfl, rfl, rfl⟩, fun _ hk => ⟨([], l, []), ⟨rfl, by omega, (fewV_nil gl).symm⟩, ⟨⟨rfl, rfl, rfl, rfl, rfl, rfl, rfl⟩, .inl rfl⟩, fun _ hn => (by rw [hf] at hn; cases hn), fun z hz => ?_⟩, fun _ _ => rfl⟩⟩
  obtain ⟨A, B, C, F⟩ := few_law gl (show okB [] l = true from hk) key
  rw [hf] at C F
  rw [← ha] at A F
  have B := B h0
  have hfi : (all.find? fun x => decide (x ∈ List.map (fun x => x.id) ((e :: es) : List Hst))) = if is' then some heir else none := by
    rw [F, hh, hi]
    cases owrV (e :: es) key <;> rfl
  have hhd : all.head? = owrV l key := by rw [ha]; exact own_head l key (by omega)
  obtain ⟨y, t, hy⟩ : ∃ y t, all = y :: t := by
    cases e0 : all with
    | nil => rw [e0] at A; simp at A; omega
    | cons y t => exact ⟨y, t, rfl⟩
  have hyo : (owrV l key).getD 0 = y := by rw [← hhd, hy]; rfl
  have hy0 : (List.map iD all)[0]? = some (.int .i64 y) := by rw [hy]; rfl
  have hz' : z.1 :: z.2 = e :: es := by rw [← hz, hf]
  have hT : List.take (List.map hstD (e :: es)).length (List.drop 0 (List.map hstD (e :: es))) = List.map hstD (e :: es) := by rw [List.drop_zero, List.take_length]
  have hel : (e :: es).length ≤ 20 := by rw [← hf]; have := (fewV_sub gl l).length_le; omega
  have hsm : ∀ h ∈ e :: es, h.small := fun h hm => h2 h ((fewV_sub gl l).subset (by rw [hf]; exact hm))
  rw [hz', hT, map_dHst, List.length_map, C]
  refine ⟨okl, by omega, pure_hstD _, ⟨⟨_, rfl, by omega, hsm⟩, by omega⟩, fun t => (by rw [B] at t; cases t), fun _ => ⟨fun t => ?_, fun _ => ⟨okl, fun t => absurd (congrArg Int.ofNat A) (of_decide_eq_true t), fun _ => ⟨y, by omega, hy0, fun t => absurd hyo.symm (of_decide_eq_true t), fun _ => ⟨([], all), ⟨rfl, by omega, by omega, hfi⟩, ⟨⟨rfl, by rw [hh], by rw [hi, C], by rw [hg], by rw [List.length_map], rfl⟩, .inr ⟨rfl, pure_hstD _⟩⟩, fun _ hz => ⟨fun _ => ⟨trivial, rfl⟩, fun t => (by rw [hz] at t; cases t)⟩, fun _ _ => rfl⟩⟩⟩⟩⟩
  have : (decide (0 < (e :: es).length)) = decide (0 < (((e :: es).length : Nat) : Int)) := by rw [decide_eq_decide]; omega
  rw [this] at t
  simp at t
theorem rfN2 (f : Bool) (l : List Hst) (key : ByteArray) (gf : Bool) (gl : List Bool) (heir : Int) (is' : Bool) (g : Bool) (all : List Int) (h1 : l.length ≤ 20) (h2 : ∀ h ∈ l, h.small) (hlg : lgtB l key = true) (h0 : l ≠ []) (hf : fewV gl l = []) (hh : heir = (owrV [] key).getD 0) (hi : is' = (owrV [] key).isSome) (ha : all = ownV l key l.length) (hg : g = all.isEmpty) : (∃ (l_1 : List Hst), List.map hstD l = List.map hstD l_1 ∧ l_1.length ≤ (4398046511104 : Nat) ∧ ∀ (h : Hst), List.Mem h l_1 → h.small) ∧ ((!lgtB (List.map dHst (List.map hstD l)) key) = true → True ∧ D.bool true = D.bool true) ∧ ((!lgtB (List.map dHst (List.map hstD l)) key) = false → decide ((↑(List.map hstD l).length : Int) = (0 : Int)) = false ∧ ∃ (b : List Hst × List Hst), (b.fst ++ b.snd = l ∧ l.length ≤ (4398046511104 : Nat) ∧ ∀ (h : Hst), List.Mem h l → h.small) ∧ (D.sl f (List.map hstD l) = D.sl f (List.map hstD l) ∧ D.str key = D.str key ∧ D.sl gf (List.map bD gl) = D.sl gf (List.map bD gl) ∧ D.sl f (List.map hstD l) = D.sl f (List.map hstD l) ∧ D.int IntKind.i64 (↑(List.map hstD l).length : Int) = D.int IntKind.i64 (↑(List.map hstD l).length : Int) ∧ D.int IntKind.i64 (↑b.fst.length : Int) = D.int IntKind.i64 (0 : Int)) ∧ (∀ (a : Unit), okB b.fst b.snd = true → ∃ (b : List Hst × List Hst × List Hst), (b.fst ++ b.snd.fst = l ∧ l.length ≤ (1000 : Nat) ∧ b.snd.snd = fewV gl b.fst) ∧ ((D.sl f (List.map hstD l) = D.sl f (List.map hstD l) ∧ D.str key = D.str key ∧ D.sl gf (List.map bD gl) = D.sl gf (List.map bD gl) ∧ outD (0 : Nat) (List.map hstD b.snd.snd) = D.sl true [] ∧ D.sl f (List.map hstD l) = D.sl f (List.map hstD l) ∧ D.int IntKind.i64 (↑(List.map hstD l).length : Int) = D.int IntKind.i64 (↑(List.map hstD l).length : Int) ∧ D.int IntKind.i64 (↑b.fst.length : Int) = D.int IntKind.i64 (0 : Int)) ∧ (outO (6 : Nat) (List.map hstD b.snd.snd) = none ∨ outO (6 : Nat) (List.map hstD b.snd.snd) = none ∧ False)) ∧ (∀ (a : Unit), fewV gl l = [] → ((∃ (l_1 : List Hst), List.map hstD l = List.map hstD l_1 ∧ l_1.length ≤ (1000 : Nat) ∧ ∀ (h : Hst), List.Mem h l_1 → h.small) ∧ key.size ≤ (9223372036854775807 : Nat)) ∧ ((∃ (l : List Hst), nilT D = List.map hstD l ∧ l.length ≤ (1000 : Nat) ∧ ∀ (h : Hst), List.Mem h l → h.small) ∧ key.size ≤ (9223372036854775807 : Nat)) ∧ ((!(owrV (List.map dHst (List.map hstD l)) key).isSome) = true → D.bool false = D.bool true) ∧ ((!(owrV (List.map dHst (List.map hstD l)) key).isSome) = false → (false = true → D.bool false = D.bool true) ∧ (false = false → ((∃ (l_1 : List Hst), List.map hstD l = List.map hstD l_1 ∧ l_1.length ≤ (1000 : Nat) ∧ ∀ (h : Hst), List.Mem h l_1 → h.small) ∧ key.size ≤ (9223372036854775807 : Nat)) ∧ (decide ((↑(List.map iD (ownV (List.map dHst (List.map hstD l)) key (↑(List.map hstD l).length : Int))).length : Int) ≠ (↑(List.map hstD l).length : Int)) = true → D.bool false = D.bool true) ∧ (decide ((↑(List.map iD (ownV (List.map dHst (List.map hstD l)) key (↑(List.map hstD l).length : Int))).length : Int) ≠ (↑(List.map hstD l).length : Int)) = false → ∃ (y : Int), (0 : Int) ≤ (0 : Int) ∧ (List.map iD (ownV (List.map dHst (List.map hstD l)) key (↑(List.map hstD l).length : Int)))[(0 : Nat)]? = some (D.int IntKind.i64 y) ∧ (decide (y ≠ (owrV (List.map dHst (List.map hstD l)) key).getD (0 : Int)) = true → D.bool false = D.bool true) ∧ (decide (y ≠ (owrV (List.map dHst (List.map hstD l)) key).getD (0 : Int)) = false → ∃ (b : List Int × List Int), (b.fst ++ b.snd = all ∧ all.length ≤ (1000 : Nat) ∧ (0 : Nat) ≤ (1000 : Nat) ∧ List.find? (fun (x : Int) => decide (x ∈ List.map (fun (x : Hst) => x.id) [])) b.snd = if is' = true then some heir else none) ∧ ((D.sl true [] = D.sl true [] ∧ D.int IntKind.i64 heir = D.int IntKind.i64 (none.getD (0 : Int)) ∧ D.bool is' = D.bool false ∧ D.sl g (List.map iD all) = D.sl (ownV (List.map dHst (List.map hstD l)) key (↑(List.map hstD l).length : Int)).isEmpty (List.map iD (ownV (List.map dHst (List.map hstD l)) key (↑(List.map hstD l).length : Int))) ∧ D.int IntKind.i64 (↑(List.map iD all).length : Int) = D.int IntKind.i64 (↑(List.map iD (ownV (List.map dHst (List.map hstD l)) key (↑(List.map hstD l).length : Int))).length : Int) ∧ D.int IntKind.i64 (↑b.fst.length : Int) = D.int IntKind.i64 (0 : Int)) ∧ ((none : Option Ob) = none ∨ (none : Option Ob) = none ∧ False)) ∧ (∀ (a : Unit), is' = false → ((!is') = true → True ∧ D.bool true = D.bool true) ∧ ((!is') = false → D.bool false = D.bool true)) ∧ ∀ (a : Unit), True → D.bool true = D.bool true))))) ∧ ∀ (a : Hst × List Hst), fewV gl l = a.fst :: a.snd → ((∃ (l_1 : List Hst), List.map hstD l = List.map hstD l_1 ∧ l_1.length ≤ (1000 : Nat) ∧ ∀ (h : Hst), List.Mem h l_1 → h.small) ∧ key.size ≤ (9223372036854775807 : Nat)) ∧ (0 : Nat) + (List.map hstD (a.fst :: a.snd)).length ≤ (List.map hstD (a.fst :: a.snd)).length ∧ (List.take (List.map hstD (a.fst :: a.snd)).length (List.drop (0 : Nat) (List.map hstD (a.fst :: a.snd)))).all D.pure = true ∧ ((∃ (l : List Hst), List.take (List.map hstD (a.fst :: a.snd)).length (List.drop (0 : Nat) (List.map hstD (a.fst :: a.snd))) = List.map hstD l ∧ l.length ≤ (1000 : Nat) ∧ ∀ (h : Hst), List.Mem h l → h.small) ∧ key.size ≤ (9223372036854775807 : Nat)) ∧ ((!(owrV (List.map dHst (List.map hstD l)) key).isSome) = true → D.bool false = D.bool true) ∧ ((!(owrV (List.map dHst (List.map hstD l)) key).isSome) = false → ((!decide ((owrV (List.map dHst (List.take (List.map hstD (a.fst :: a.snd)).length (List.drop (0 : Nat) (List.map hstD (a.fst :: a.snd))))) key).isSome = decide ((0 : Int) < (↑(List.map hstD (a.fst :: a.snd)).length : Int)))) = true → D.bool false = D.bool true) ∧ ((!decide ((owrV (List.map dHst (List.take (List.map hstD (a.fst :: a.snd)).length (List.drop (0 : Nat) (List.map hstD (a.fst :: a.snd))))) key).isSome = decide ((0 : Int) < (↑(List.map hstD (a.fst :: a.snd)).length : Int)))) = false → ((∃ (l_1 : List Hst), List.map hstD l = List.map hstD l_1 ∧ l_1.length ≤ (1000 : Nat) ∧ ∀ (h : Hst), List.Mem h l_1 → h.small) ∧ key.size ≤ (9223372036854775807 : Nat)) ∧ (decide ((↑(List.map iD (ownV (List.map dHst (List.map hstD l)) key (↑(List.map hstD l).length : Int))).length : Int) ≠ (↑(List.map hstD l).length : Int)) = true → D.bool false = D.bool true) ∧ (decide ((↑(List.map iD (ownV (List.map dHst (List.map hstD l)) key (↑(List.map hstD l).length : Int))).length : Int) ≠ (↑(List.map hstD l).length : Int)) = false → ∃ (y : Int), (0 : Int) ≤ (0 : Int) ∧ (List.map iD (ownV (List.map dHst (List.map hstD l)) key (↑(List.map hstD l).length : Int)))[(0 : Nat)]? = some (D.int IntKind.i64 y) ∧ (decide (y ≠ (owrV (List.map dHst (List.map hstD l)) key).getD (0 : Int)) = true → D.bool false = D.bool true) ∧ (decide (y ≠ (owrV (List.map dHst (List.map hstD l)) key).getD (0 : Int)) = false → ∃ (b : List Int × List Int), (b.fst ++ b.snd = all ∧ all.length ≤ (1000 : Nat) ∧ (0 : Nat) ≤ (1000 : Nat) ∧ List.find? (fun (x : Int) => decide (x ∈ List.map (fun (x : Hst) => x.id) [])) b.snd = if is' = true then some heir else none) ∧ ((D.sl true [] = D.ms (0 : Nat) (0 : Nat) (List.map hstD (a.fst :: a.snd)).length (List.map hstD (a.fst :: a.snd)).length false ∧ D.int IntKind.i64 heir = D.int IntKind.i64 ((owrV (List.map dHst (List.take (List.map hstD (a.fst :: a.snd)).length (List.drop (0 : Nat) (List.map hstD (a.fst :: a.snd))))) key).getD (0 : Int)) ∧ D.bool is' = D.bool (owrV (List.map dHst (List.take (List.map hstD (a.fst :: a.snd)).length (List.drop (0 : Nat) (List.map hstD (a.fst :: a.snd))))) key).isSome ∧ D.sl g (List.map iD all) = D.sl (ownV (List.map dHst (List.map hstD l)) key (↑(List.map hstD l).length : Int)).isEmpty (List.map iD (ownV (List.map dHst (List.map hstD l)) key (↑(List.map hstD l).length : Int))) ∧ D.int IntKind.i64 (↑(List.map iD all).length : Int) = D.int IntKind.i64 (↑(List.map iD (ownV (List.map dHst (List.map hstD l)) key (↑(List.map hstD l).length : Int))).length : Int) ∧ D.int IntKind.i64 (↑b.fst.length : Int) = D.int IntKind.i64 (0 : Int)) ∧ ((none : Option Ob) = none ∨ none = some (Ob.row St.own (6 : Nat) (List.map hstD (a.fst :: a.snd))) ∧ (List.map hstD (a.fst :: a.snd)).all D.pure = true)) ∧ (∀ (a : Unit), is' = false → ((!is') = true → True ∧ D.bool true = D.bool true) ∧ ((!is') = false → D.bool false = D.bool true)) ∧ ∀ (a : Unit), True → D.bool true = D.bool true))))) ∧ ∀ (a : Unit), okB b.fst b.snd = false → D.bool true = D.bool true) := by
  have hkey := (lgt_iff hlg).2
  have hln : all.length ≤ 20 := by rw [ha]; have := own_len l key l.length; omega
  have hpos : 0 < l.length := List.length_pos_iff.2 h0
  have hLl : (List.map hstD l).length = l.length := List.length_map ..
  have okl : (∃ l_1 : List Hst, List.map hstD l = List.map hstD l_1 ∧ l_1.length ≤ 1000 ∧ ∀ (h : Hst), List.Mem h l_1 → h.small) ∧ key.size ≤ 9223372036854775807 := ⟨⟨l, rfl, by omega, h2⟩, by omega⟩
  rw [map_dHst, List.length_map, List.length_map, ← ha]
  refine ⟨⟨l, rfl, by omega, h2⟩, fun _ => ⟨trivial, rfl⟩, fun _ => ⟨decide_eq_false (by omega), ([], l), ⟨rfl, by omega, h2⟩, ⟨rfl, rfl, rfl, rfl, rfl, rfl⟩, fun _ hk => ⟨([], l, []), ⟨rfl, by omega, (fewV_nil gl).symm⟩, ⟨⟨rfl, rfl, rfl, rfl, rfl, rfl, rfl⟩, .inl rfl⟩, fun _ hn => ?_, fun z hz => (by rw [hf] at hz; cases hz)⟩, fun _ _ => rfl⟩⟩
  obtain ⟨A, B, C, F⟩ := few_law gl (show okB [] l = true from hk) key
  rw [hf] at C F
  rw [← ha] at A F
  have B := B h0
  have hfi : (all.find? fun x => decide (x ∈ List.map (fun x => x.id) ([] : List Hst))) = if is' then some heir else none := by
    rw [F, hh, hi]
    cases owrV [] key <;> rfl
  have hhd : all.head? = owrV l key := by rw [ha]; exact own_head l key (by omega)
  obtain ⟨y, t, hy⟩ : ∃ y t, all = y :: t := by
    cases e0 : all with
    | nil => rw [e0] at A; simp at A; omega
    | cons y t => exact ⟨y, t, rfl⟩
  have hyo : (owrV l key).getD 0 = y := by rw [← hhd, hy]; rfl
  have hy0 : (List.map iD all)[0]? = some (.int .i64 y) := by rw [hy]; rfl
  refine ⟨okl, ⟨⟨[], rfl, Nat.zero_le _, fun h hm => by cases hm⟩, by omega⟩, fun t => (by rw [B] at t; cases t), fun _ => ⟨fun t => (by cases t), fun _ => ⟨okl, fun t => absurd (congrArg Int.ofNat A) (of_decide_eq_true t), fun _ => ⟨y, by omega, hy0, fun t => absurd hyo.symm (of_decide_eq_true t), fun _ => ⟨([], all), ⟨rfl, by omega, by omega, hfi⟩, ⟨⟨rfl, ?_, by rw [hi, C]; rfl, by rw [hg], by rw [List.length_map], rfl⟩, .inl rfl⟩, fun _ hz => ⟨fun _ => ⟨trivial, rfl⟩, fun t => (by rw [hz] at t; cases t)⟩, fun _ _ => rfl⟩⟩⟩⟩⟩
  have : owrV [] key = none := by
    cases e0 : owrV [] key with
    | none => rfl
    | some v => rw [e0] at C; cases C
  rw [hh, this]
theorem ringFewer_law {x0 : List D} (o0 : OkL reachBytes [.sl true [.int .i64, .str, .int .i64, .str, .int .i64, .sl true [.str, .str]]] x0) {x1 : List D} (o1 : OkL reachBytes [.str] x1) {x2 : List D} (o2 : OkL reachBytes [.sl false [.bool]] x2) : DataFun Tryd.prog 3 [vOf false x0, vOf false x1, vOf false x2] (.bool true) := by
  obtain ⟨f, l, rfl, hl, hlen⟩ := okl1_hosts o0
  obtain ⟨key, rfl⟩ := okl1_strQ o1
  obtain ⟨gf, gl, rfl, _⟩ := okl1_bools o2
  have h2 : ∀ h ∈ l, h.small := fun h hm => (hl h hm).1
  show DataFun Tryd.prog 3 [.sl f (l.map hstD), .str key, .sl gf (gl.map bD)] (.bool true)
  by_cases hb : lgtB l key = false ∨ l = []
  · exact dataFun0 (C := rfCf0) (ctrs_ok rfC rfl rfl) rfl Tryd.func3 (by kernel_rfl) (by kernel_rfl) (by kernel_rfl) rfl (by kernel_rfl) (rfN0 f l key gf gl hlen h2 hb)
  · have hlg : lgtB l key = true := by
      cases h : lgtB l key with
      | true => rfl
      | false => exact absurd (.inl h) hb
    have h1 := (lgt_iff hlg).1
    have h0 : l ≠ [] := fun e => hb (.inr e)
    cases hf : fewV gl l with
    | nil =>
      exact dataFunL (C := rfCf f l key gf gl [] ((owrV [] key).getD 0) (owrV [] key).isSome (ownV l key l.length).isEmpty (ownV l key l.length)) (ctrs_ok rfC rfl rfl) rfl Tryd.func3 (by kernel_rfl) (l := [lp Tryd.f3 4, lp Tryd.f3 17, lp Tryd.f3 30]) (by kernel_rfl) (fun x hx => by
        simp only [List.mem_cons, List.not_mem_nil, or_false] at hx
        rcases hx with rfl | rfl | rfl
        · exact (rf4 f l key gf gl).fits 4 [] (by kernel_rfl) rfl (rf4R f l key gf gl)
        · exact (rf17 f l key gf gl).fits 17 [(1000, true)] (by kernel_rfl) rfl (rf17R f l key gf gl)
        · exact (rf30 [] _ _ _ _).fits 30 [(0, true)] (by kernel_rfl) rfl (rf30R [] _ _ _ _)) (by kernel_rfl) rfl (by kernel_rfl) (rfN2 f l key gf gl _ _ _ _ h1 h2 hlg h0 hf rfl rfl rfl rfl)
    | cons e es =>
      exact dataFunL (C := rfCf f l key gf gl (e :: es) ((owrV (e :: es) key).getD 0) (owrV (e :: es) key).isSome (ownV l key l.length).isEmpty (ownV l key l.length)) (ctrs_ok rfC rfl rfl) rfl Tryd.func3 (by kernel_rfl) (l := [lp Tryd.f3 4, lp Tryd.f3 17, lp Tryd.f3 30]) (by kernel_rfl) (fun x hx => by
        simp only [List.mem_cons, List.not_mem_nil, or_false] at hx
        rcases hx with rfl | rfl | rfl
        · exact (rf4 f l key gf gl).fits 4 [] (by kernel_rfl) rfl (rf4R f l key gf gl)
        · exact (rf17 f l key gf gl).fits 17 [(1000, true)] (by kernel_rfl) rfl (rf17R f l key gf gl)
        · exact (rf30 (e :: es) _ _ _ _).fits 30 [(0, true)] (by kernel_rfl) rfl (rf30R (e :: es) _ _ _ _)) (by kernel_rfl) rfl (by kernel_rfl) (rfN1 f l key gf gl e es _ _ _ _ h1 h2 hlg h0 hf rfl rfl rfl rfl)
end Go.Proofs.YtfclelafcdcilaaDoor.Dv
