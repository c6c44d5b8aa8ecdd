/- The plain law of rings. -/
import Derived.Test.YtfclelafcdcilaaDoorQ7
set_option linter.unusedVariables false
set_option linter.unusedSimpArgs false
namespace Go.Proofs.YtfclelafcdcilaaDoor.Dv
open Go Go.Proofs
theorem cP_eq {a b : Pt} (h1 : ltOf cP a b = false) (h2 : ltOf cP b a = false) : a = b := by
  rw [ltOf_Pf] at h1 h2
  unfold ltP at h1 h2
  exact Prod.ext (by omega) (by omega)
def srtd (S : List Pt) : Prop := S.Pairwise fun x y => ltOf cP y x = false
theorem srt_srtd (l : List Pt) : srtd (srtV cP l) := srtV_sorted swoP l
theorem srtd_uniq {l m : List Pt} (h1 : srtd l) (h2 : srtd m) (h : l.Perm m) : l = m := List.Perm.eq_of_pairwise (fun a b _ _ e1 e2 => cP_eq e2 e1) h1 h2 h
theorem srt_perm {l m : List Pt} (h : l.Perm m) : srtV cP l = srtV cP m := srtd_uniq (srt_srtd l) (srt_srtd m) ((srtV_perm swoP l).trans (h.trans (srtV_perm swoP m).symm))
theorem srt_filter (q : Pt → Bool) (l : List Pt) : srtV cP (l.filter q) = (srtV cP l).filter q := srtd_uniq (srt_srtd _) ((srt_srtd l).filter q) ((srtV_perm swoP _).trans ((srtV_perm swoP l).filter q).symm)
theorem low_cut (at' : Int) : ∀ {S : List Pt}, srtd S → S.takeWhile (lowP at') = S.filter (lowP at') ∧ S.dropWhile (lowP at') = S.filter fun p => !lowP at' p
  | [], _ => ⟨rfl, rfl⟩
  | x :: r, h => by
    obtain ⟨h1, h2⟩ := List.pairwise_cons.1 h
    obtain ⟨i1, i2⟩ := low_cut at' h2
    cases hx : lowP at' x with
    | true => exact ⟨by rw [List.takeWhile_cons, List.filter_cons, hx, if_pos rfl, if_pos rfl, i1], by rw [List.dropWhile_cons, List.filter_cons, hx, if_pos rfl, if_neg (by simp), i2]⟩
    | false =>
      have hr : ∀ y ∈ r, lowP at' y = false := fun y hy => by
        have h3 := h1 y hy
        rw [ltOf_Pf] at h3
        unfold ltP at h3
        have hx' : ¬ x.1 < at' := of_decide_eq_false hx
        exact decide_eq_false (by omega)
      refine ⟨?_, ?_⟩
      · rw [List.takeWhile_cons, List.filter_cons, hx, if_neg (by simp), if_neg (by simp)]
        exact (List.filter_eq_nil_iff.2 fun y hy => by rw [hr y hy]; simp).symm
      · rw [List.dropWhile_cons, List.filter_cons, hx, if_neg (by simp), if_pos (show (!false) = true from rfl)]
        rw [List.filter_eq_self.2 fun y hy => by rw [hr y hy]; rfl]
theorem rotP_eq (at' : Int) (S : List Pt) : rotP at' S = S.dropWhile (lowP at') ++ S.takeWhile (lowP at') := by
  have e := List.takeWhile_append_dropWhile (p := lowP at') (l := S)
  unfold rotP cutP
  have e1 : S.drop (S.takeWhile (lowP at')).length = S.dropWhile (lowP at') := by
    conv => lhs; arg 2; rw [← e]
    exact List.drop_left' rfl
  have e2 : S.take (S.takeWhile (lowP at')).length = S.takeWhile (lowP at') := by
    conv => lhs; arg 2; rw [← e]
    exact List.take_left' rfl
  rw [e1, e2]
theorem rot_filter (at' : Int) (q : Pt → Bool) {S : List Pt} (h : srtd S) : rotP at' (S.filter q) = (rotP at' S).filter q := by
  have h' : srtd (S.filter q) := h.filter q
  rw [rotP_eq, rotP_eq, (low_cut at' h).1, (low_cut at' h).2, (low_cut at' h').1, (low_cut at' h').2, List.filter_append, List.filter_filter, List.filter_filter, List.filter_filter, List.filter_filter]
  congr 1 <;> (congr 1; funext p; rw [Bool.and_comm])
theorem rot_perm (at' : Int) (S : List Pt) : (rotP at' S).Perm S := by
  unfold rotP
  exact List.perm_append_comm.trans (by rw [List.take_append_drop])
/-- All ids, each where it stands first. -/
def ddO : List Pt → List Int → List Int
  | [], o => o
  | p :: r, o => ddO r (if p.2 ∈ o then o else o ++ [p.2])
theorem ddO_pre : ∀ (R : List Pt) (o : List Int), o <+: ddO R o
  | [], o => List.prefix_refl o
  | p :: r, o => by
    unfold ddO
    refine List.IsPrefix.trans ?_ (ddO_pre r _)
    split
    · exact List.prefix_refl o
    · exact List.prefix_append o _
theorem pre_take {α : Type} {o m : List α} (h : o <+: m) {n : Nat} (hn : n = o.length) : m.take n = o := by
  obtain ⟨t, rfl⟩ := h
  exact List.take_left' hn.symm
theorem goO_take (n : Int) : ∀ (R : List Pt) (o : List Int), (o.length : Int) ≤ n → goO n R o = (ddO R o).take n.toNat
  | [], o, h => by
    unfold goO ddO
    rw [List.take_of_length_le (by omega)]
  | p :: r, o, h => by
    rw [goO]
    by_cases h1 : n ≤ (o.length : Int)
    · rw [if_pos h1, pre_take (ddO_pre (p :: r) o) (by omega)]
    · have h2 : (((if p.2 ∈ o then o else o ++ [p.2]) : List Int).length : Int) ≤ n := by
        split
        · omega
        · rw [List.length_append]; simp only [List.length_cons, List.length_nil]; omega
      rw [if_neg h1, goO_take n r _ h2]
      rfl
noncomputable def allV (l : List Hst) (key : ByteArray) : List Int := ddO (rotP (textV key) (srtP l)) []
theorem own_take (l : List Hst) (key : ByteArray) (n : Int) : ownV l key n = (allV l key).take n.toNat := by
  unfold ownV allV
  by_cases h : 0 ≤ n
  · exact goO_take n _ [] (by simpa using h)
  · rw [show n.toNat = 0 by omega, List.take_zero]
    cases rotP (textV key) (srtP l) with
    | nil => rfl
    | cons p r => rw [goO]; exact if_pos (by simp; omega)
theorem ddO_nodup : ∀ (R : List Pt) (o : List Int), o.Nodup → (ddO R o).Nodup
  | [], o, h => h
  | p :: r, o, h => by
    unfold ddO
    refine ddO_nodup r _ ?_
    split
    · exact h
    · rename_i hp
      refine List.nodup_append.2 ⟨h, by simp, fun a ha b hb => ?_⟩
      rw [List.mem_singleton.1 hb]
      exact fun e => hp (e ▸ ha)
theorem ddO_mem (x : Int) : ∀ (R : List Pt) (o : List Int), x ∈ ddO R o ↔ x ∈ o ∨ ∃ p ∈ R, p.2 = x
  | [], o => by simp [ddO]
  | p :: r, o => by
    unfold ddO
    rw [ddO_mem x r]
    split
    · rename_i hp
      constructor
      · rintro (h | ⟨q, hq, e⟩)
        · exact .inl h
        · exact .inr ⟨q, List.mem_cons_of_mem _ hq, e⟩
      · rintro (h | ⟨q, hq, e⟩)
        · exact .inl h
        · rcases List.mem_cons.1 hq with rfl | hq
          · exact .inl (e ▸ hp)
          · exact .inr ⟨q, hq, e⟩
    · constructor
      · rintro (h | ⟨q, hq, e⟩)
        · rcases List.mem_append.1 h with h | h
          · exact .inl h
          · exact .inr ⟨p, List.mem_cons_self .., (List.mem_singleton.1 h).symm⟩
        · exact .inr ⟨q, List.mem_cons_of_mem _ hq, e⟩
      · rintro (h | ⟨q, hq, e⟩)
        · exact .inl (List.mem_append_left _ h)
        · rcases List.mem_cons.1 hq with rfl | hq
          · exact .inl (List.mem_append_right _ (by simp [e]))
          · exact .inr ⟨q, hq, e⟩
theorem ddO_find (q : Int → Bool) : ∀ (R : List Pt) (o : List Int), (ddO R o).find? q = ((o.find? q).or ((R.find? fun p => q p.2).map (·.2)))
  | [], o => by simp [ddO]
  | p :: r, o => by
    unfold ddO
    rw [ddO_find q r]
    split
    · rename_i hp
      rw [List.find?_cons]
      cases hq : q p.2 with
      | true =>
        have : (o.find? q).isSome = true := List.find?_isSome.2 ⟨p.2, hp, hq⟩
        match o.find? q, this with
        | some z, _ => rfl
      | false => rfl
    · rw [List.find?_append, List.find?_cons (a := p)]
      cases hq : q p.2 with
      | true => rw [List.find?_cons, hq, Option.or_assoc]; rfl
      | false => rw [List.find?_cons, hq, Option.or_assoc]; rfl
theorem allV_nodup (l : List Hst) (key : ByteArray) : (allV l key).Nodup := ddO_nodup _ _ List.nodup_nil
theorem own_nodup (l : List Hst) (key : ByteArray) (n : Int) : (ownV l key n).Nodup := by
  rw [own_take]; exact (allV_nodup l key).sublist (List.take_sublist _ _)
theorem own_len (l : List Hst) (key : ByteArray) (n : Int) : (ownV l key n).length ≤ n.toNat := by
  rw [own_take, List.length_take]; exact Nat.min_le_left _ _
theorem owr_head (l : List Hst) (key : ByteArray) : owrV l key = (allV l key).head? := by
  unfold owrV; rw [own_take]
  cases allV l key <;> rfl
theorem own_head (l : List Hst) (key : ByteArray) {n : Int} (h : 1 ≤ n) : (ownV l key n).head? = owrV l key := by
  rw [own_take, owr_head]
  obtain ⟨k, hk⟩ : ∃ k, n.toNat = k + 1 := ⟨n.toNat - 1, by omega⟩
  rw [hk]
  cases allV l key <;> rfl
theorem allV_perm {l m : List Hst} (h : l.Perm m) (key : ByteArray) : allV l key = allV m key := by
  unfold allV srtP ptsOf
  rw [srt_perm (h.flatMap_right hp)]
theorem owr_perm {l m : List Hst} (h : l.Perm m) (key : ByteArray) : owrV l key = owrV m key := by rw [owr_head, owr_head, allV_perm h]
end Go.Proofs.YtfclelafcdcilaaDoor.Dv
