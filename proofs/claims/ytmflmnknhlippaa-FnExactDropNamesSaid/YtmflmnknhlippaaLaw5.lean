/-
  Names: putting.
-/
import Derived.Test.YtmflmnknhlippaaLaw4
namespace Go.Ev
set_option linter.unusedVariables false
set_option linter.unusedSimpArgs false
set_option maxRecDepth 100000
set_option synthInstance.maxSize 2000
set_option synthInstance.maxHeartbeats 400000
/-! ### putting, as the code does it -/

theorem Insert_Name_ok (xs : List DName) (x : DName) {j : Nat} (hj : j ≤ xs.length) (h : xs.length ≤ 1048577) : slices_Insert_Name (j : Int) [x] xs = some (xs.take j ++ [x] ++ xs.drop j) := by
  unfold slices_Insert_Name slices_Insert_NameK
  rw [nnK_nat, chk_pos hj, chk_pos (by simp only [bigRow, List.length_singleton]; omega)]

theorem clone_Name_ok (xs : List DName) (h : xs.length ≤ 1048577) : impl_clone_Name xs = some xs := by
  unfold impl_clone_Name impl_clone_NameK
  simp only [cloneN_ok xs h, some_bind']
  first
    | rfl
    | (unfold slices_Clip_Name_v2 slices_Clip_Name_v2K; rw [chk_pos (by omega), chk_pos (by omega)]; rfl)
    | (unfold slices_Clip_Name slices_Clip_NameK; rw [chk_pos (by omega), chk_pos (by omega)]; rfl)

theorem insN_length (xs : List DName) (x : DName) : (insN xs x).length = xs.length + 1 := by
  have hle : ixN xs x.1 ≤ xs.length := List.findIdx_le_length
  simp [insN]; omega

theorem putN_length (xs : List DName) (x : DName) : (putN xs x).2.length ≤ xs.length + 1 := by
  unfold putN
  cases namesV xs && mayN x with
  | false => simp
  | true =>
    simp only [cond_true]
    cases atN xs x.1 with
    | true => simp only [cond_true]; split <;> simp
    | false => simp only [cond_false]; split <;> simp [insN_length]

theorem impl_PutName_ok (xs : List DName) (x : DName) (h : xs.length ≤ 1048576) (hs : small xs) (hx : x.1.size ≤ 9223372036854775807) : impl_PutName xs x = some (putN xs x) := by
  unfold impl_PutName impl_PutNameK putN mayN
  rw [impl_NamesValid_ok xs (by omega) hs]
  have em : (x.1, x.2.1, x.2.2.1, ()) = x := rfl
  cases hv : namesV xs with
  | false => rfl
  | true =>
    simp only [some_bind', Bool.not_true, Bool.not_false, cond_true, em, may_ok x hx, Bool.true_and]
    cases ht : (textV x.1 && rgt x.2.1 0 15) with
    | false => rfl
    | true =>
      have hle : ixN xs x.1 ≤ xs.length := List.findIdx_le_length
      simp only [Bool.not_true, cond_false, cond_true, clone_Name_ok xs (by omega), some_bind', impl_find_ok xs x.1 hv (by omega)]
      cases ha : atN xs x.1 with
      | true =>
        have hlt := atN_lt ha
        simp only [cond_true, nnK_nat, getK_some (nget_of hlt), chk_pos hlt, Bool.not_true, cond_false, bneI]
        generalize (xs.getD (ixN xs x.1) nN).2.1 = q
        by_cases e : q = x.2.1
        · simp [e]
        · simp [e]
      | false =>
        simp only [cond_false, Bool.not_false, cond_true]
        by_cases e : xs.length = 20
        · have : ((xs.length : Int) == 20) = true := by simp [e]
          simp only [this, cond_true]
          rw [if_pos e]
        · have : ((xs.length : Int) == 20) = false := by simp; omega
          simp only [this, cond_false, e, if_false, Insert_Name_ok xs x hle (by omega), some_bind']
          rw [show xs.take (ixN xs x.1) ++ [x] ++ xs.drop (ixN xs x.1) = insN xs x from rfl, clone_Name_ok _ (by rw [insN_length]; omega)]
          rfl

/-! ### what a list is after putting -/

theorem mem_ixN {xs : List DName} (hv : namesV xs = true) {x : DName} : (∀ y ∈ xs.take (ixN xs x.1), ltB y.1 x.1 = true) ∧ (∀ y ∈ xs.drop (ixN xs x.1), ltB y.1 x.1 = false) := by
  refine ⟨fun y hy => ?_, fun y hy => ?_⟩
  · obtain ⟨m, hm, rfl⟩ := List.mem_take_iff_getElem.1 hy
    exact ixN_below (by omega) (by omega)
  · obtain ⟨m, hm⟩ := List.getElem?_of_mem hy
    rw [List.getElem?_drop] at hm
    have hl := get_lt hm
    have hxm : xs[ixN xs x.1 + m] = y := (List.getElem?_eq_some_iff.1 hm).2
    have := ixN_above (t := x.1) hv hl (by omega)
    rwa [hxm] at this

theorem ltB_tri {a b : ByteArray} (h1 : ltB a b = false) (h2 : a ≠ b) : ltB b a = true := by
  have h := ltB_ge b a
  have h3 : (b.toList == a.toList) = false := by
    cases hb : (b.toList == a.toList) with
    | false => rfl
    | true => exact absurd (toList_eq.1 hb).symm h2
  rw [h3, Bool.or_false, h1] at h
  exact h

theorem insN_valid {xs : List DName} (hv : namesV xs = true) {x : DName} (hm : mayN x = true) (ha : atN xs x.1 = false) (hl : xs.length ≤ 19) : namesV (insN xs x) = true ∧ ∀ y ∈ xs, y.1 ≠ x.1 := by
  have hne : ∀ y ∈ xs, y.1 ≠ x.1 := fun y hy e => by
    obtain ⟨i, hi⟩ := List.getElem?_of_mem hy
    have := ((atN_iff hv hi).1 e).1
    rw [ha] at this; cases this
  refine ⟨?_, hne⟩
  obtain ⟨k1, k2, k3⟩ := names_pw.1 hv
  obtain ⟨t1, t2⟩ := mem_ixN (x := x) hv
  rw [names_pw]
  refine ⟨by rw [insN_length]; omega, fun y hy => ?_, ?_⟩
  · simp only [insN, List.mem_append, List.mem_singleton] at hy
    rcases hy with (hy | hy) | hy
    · exact k2 y (List.mem_of_mem_take hy)
    · rw [hy]; exact hm
    · exact k2 y (List.mem_of_mem_drop hy)
  · unfold insN
    rw [← List.take_append_drop (ixN xs x.1) xs, List.pairwise_append] at k3
    obtain ⟨q1, q2, q3⟩ := k3
    rw [List.append_assoc, List.pairwise_append]
    refine ⟨q1, List.pairwise_cons.2 ⟨fun b hb => ltB_tri (t2 b hb) (hne b (List.mem_of_mem_drop hb)), q2⟩, fun y hy z hz => ?_⟩
    rcases List.mem_cons.1 hz with rfl | hz
    · exact t1 y hy
    · exact q3 y hy z hz

theorem set_valid {xs : List DName} (hv : namesV xs = true) {x : DName} (hm : mayN x = true) {i : Nat} (hi : i < xs.length) (he : xs[i].1 = x.1) : namesV (xs.set i x) = true := by
  rw [names_iff] at hv ⊢
  obtain ⟨h1, h2⟩ := hv
  refine ⟨fun j y hy => ?_, by simpa using h2⟩
  simp only [mayN, Bool.and_eq_true] at hm
  have key : ∀ k, (((xs.set i x).getD k nN).1 = (xs.getD k nN).1) := fun k => by
    simp only [List.getD, List.getElem?_set]
    by_cases e : i = k
    · subst e
      simp [hi, he]
    · simp [e]
  rw [List.getElem?_set] at hy
  split at hy
  · rename_i e
    subst e
    obtain rfl : x = y := by simpa [hi] using hy
    have h3 := h1 i xs[i] (List.getElem?_eq_getElem hi)
    simp only [nOk, Bool.and_eq_true, Bool.or_eq_true, key] at h3 ⊢
    exact ⟨hm.1, hm.2, by rw [← he]; exact h3.2.2⟩
  · have h3 := h1 j y hy
    simp only [nOk, Bool.and_eq_true, Bool.or_eq_true, key] at h3 ⊢
    exact h3

/-- what putting leaves, where it succeeds -/
theorem putN_good {xs : List DName} {x : DName} (h : (putN xs x).1 = true) : namesV xs = true ∧ mayN x = true ∧ namesV (putN xs x).2 = true ∧ x ∈ (putN xs x).2 ∧ (∀ y ∈ (putN xs x).2, y = x ∨ y ∈ xs) ∧ (∀ y ∈ xs, y.1 ≠ x.1 → y ∈ (putN xs x).2) ∧ (∀ y ∈ xs, y.1 = x.1 → y.2.1 = x.2.1) ∧
    (putN xs x).2.length ≤ xs.length + 1 ∧ ((∀ y ∈ xs, y.2.1 ≠ x.2.1) → (putN xs x).2.filter (keepN x.2.1) = xs ∧ (putN xs x).2.length = xs.length + 1) := by
  have hlen := putN_length xs x
  unfold putN at h hlen ⊢
  cases hc : (namesV xs && mayN x) with
  | false => rw [hc] at h; cases h
  | true =>
    have hv : namesV xs = true := by simp only [Bool.and_eq_true] at hc; exact hc.1
    have hm : mayN x = true := by simp only [Bool.and_eq_true] at hc; exact hc.2
    rw [hc] at h hlen
    simp only [cond_true] at h hlen ⊢
    cases ha : atN xs x.1 with
    | true =>
      rw [ha] at h hlen
      simp only [cond_true] at h hlen ⊢
      have hlt := atN_lt ha
      have hgd : xs.getD (ixN xs x.1) nN = xs[ixN xs x.1] := by simp [List.getD, hlt]
      have he : xs[ixN xs x.1].1 = x.1 := (atN_iff hv (List.getElem?_eq_getElem hlt)).2 ⟨ha, rfl⟩
      split at h
      · rename_i ho
        rw [if_pos ho] at hlen ⊢
        rw [hgd] at ho
        refine ⟨hv, hm, set_valid hv hm hlt he, List.mem_set hlt x, fun y hy => (List.mem_or_eq_of_mem_set hy).symm, fun y hy hne => ?_, fun y hy hye => ?_, hlen, fun hno => absurd ho (hno _ (List.getElem_mem hlt))⟩
        · obtain ⟨i, hi⟩ := List.getElem?_of_mem hy
          have hii : ixN xs x.1 ≠ i := fun e => by
            subst e
            have := (List.getElem?_eq_some_iff.1 hi).2
            rw [this] at he
            exact hne he
          exact List.mem_of_getElem? (i := i) (by rw [List.getElem?_set_ne hii]; exact hi)
        · have := names_one hv hy (List.getElem_mem hlt) (hye.trans he.symm)
          rw [this]; exact ho
      · cases h
    | false =>
      rw [ha] at h hlen
      simp only [cond_false] at h hlen ⊢
      split at h
      · cases h
      · rename_i hl
        rw [if_neg hl] at hlen ⊢
        have hl20 := (names_iff.1 hv).2
        obtain ⟨hiv, hne⟩ := insN_valid hv hm ha (by omega)
        refine ⟨hv, hm, hiv, by simp [insN], fun y hy => ?_, fun y hy _ => ?_, fun y hy hye => absurd hye (hne y hy), hlen, fun hno => ⟨?_, insN_length xs x⟩⟩
        · simp only [insN, List.mem_append, List.mem_singleton] at hy
          rcases hy with (hy | hy) | hy
          · exact .inr (List.mem_of_mem_take hy)
          · exact .inl hy
          · exact .inr (List.mem_of_mem_drop hy)
        · rw [← List.take_append_drop (ixN xs x.1) xs, List.mem_append] at hy
          simp only [insN, List.mem_append, List.mem_singleton]
          rcases hy with hy | hy
          · exact .inl (.inl hy)
          · exact .inr hy
        · have hk : ∀ y ∈ xs, keepN x.2.1 y = true := fun y hy => by simpa [keepN] using hno y hy
          unfold insN
          rw [List.filter_append, List.filter_append, List.filter_eq_self.2 (fun y hy => hk y (List.mem_of_mem_take hy)), List.filter_eq_self.2 (fun y hy => hk y (List.mem_of_mem_drop hy))]
          simp [keepN]

theorem DrawPutName_ok (code : List Int) (hc : ∀ x ∈ code, 0 ≤ x ∧ x ≤ 255) : ∃ x s, spec_DrawPutName code = some (x, s) ∧ x.1.size ≤ 13 ∧ tiny s ∧ s.length ≤ 12 := by
  unfold spec_DrawPutName spec_DrawPutNameK
  obtain ⟨b, e, hb⟩ := openE code hc
  obtain ⟨b1, s, e1, hb1, hs, hl⟩ := l20Names_ok 12 b (by omega) (hb.mono (by omega))
  obtain ⟨t, b2, d2, ht, hb2⟩ := l20Text_ok 9 b1 hb1 (by omega) (by omega)
  obtain ⟨r3, b3, d3, _, _, hb3⟩ := pickE 4 b2 hb2 (by omega) (by omega)
  obtain ⟨r4, b4, d4, _, _, hb4⟩ := pickE 14 b3 hb3 (by omega) (by omega)
  obtain ⟨r5, b5, d5, _, _, hb5⟩ := pickE 100 b4 hb4 (by omega) (by omega)
  simp only [e, e1, d2, d3, d4, d5, some_bind']
  exact ⟨_, s, rfl, ht, hs, hl⟩

theorem putN_small {xs : List DName} {x : DName} (h : small xs) (hx : x.1.size ≤ 9223372036854775807) : small (putN xs x).2 := by
  unfold putN
  cases namesV xs && mayN x with
  | false => intro y hy; simp at hy
  | true =>
    simp only [cond_true]
    cases atN xs x.1 with
    | true =>
      simp only [cond_true]
      split
      · intro y hy
        rcases List.mem_or_eq_of_mem_set hy with hy | hy
        · exact h y hy
        · rw [hy]; exact hx
      · exact h
    | false =>
      simp only [cond_false]
      split
      · exact h
      · intro y hy
        simp only [insN, List.mem_append, List.mem_singleton] at hy
        rcases hy with (hy | hy) | hy
        · exact h y (List.mem_of_mem_take hy)
        · rw [hy]; exact hx
        · exact h y (List.mem_of_mem_drop hy)

theorem FnNamesBack_law (code : List Int) (h : WfD (.cons (.sl (.int .u8)) .nil) (code, ())) : laws_FnNamesBack code = some true := by
  have hc : ∀ x ∈ code, 0 ≤ x ∧ x ≤ 255 := fun x hx => h.1.2 x hx
  unfold laws_FnNamesBack laws_FnNamesBackK
  by_cases hl : ((code.length : Int) > 1048576)
  · simp [hl]
  · obtain ⟨x0, s, hs, hx0, ht, hl12⟩ := DrawPutName_ok code hc
    simp only [hl, decide_false, cond_false, hs, some_bind']
    generalize hx : ((x0.1, (15 : Int), x0.2.2.1, ()) : DName) = x
    have hxs : x.1.size ≤ 9223372036854775807 := by subst hx; show x0.1.size ≤ _; omega
    have hxo : x.2.1 = 15 := by subst hx; rfl
    have hpl := putN_length s x
    simp only [impl_PutName_ok s x (by omega) (tiny_small ht) hxs, spec_PutName_ok s x (by omega) (tiny_small ht) hxs, some_bind', sameNames_ok _ _ (show (putN s x).2.length ≤ 1048577 by omega), decide_true, Bool.not_true, Bool.not_false, cond_true, beq_self_eq_true, cond_false]
    cases hp : (putN s x).1 with
    | false => simp only [Bool.not_false, cond_true, alive_ok, some_bind']
    | true =>
      obtain ⟨hv, hm, hpv, _, _, _, _, _, hfil⟩ := putN_good hp
      obtain ⟨f1, f2⟩ := hfil (fun y hy => by rw [hxo]; exact (ht y hy).2)
      obtain ⟨n, b, e1, e2, _⟩ := impl_DropNames_ok (putN s x).2 15 (by omega) (putN_small (tiny_small ht) hxs)
      have hd : dropN (putN s x).2 15 = s := by
        unfold dropN
        rw [hpv, ← hxo]
        exact f1
      rw [hd] at e1 e2
      simp only [Bool.not_true, cond_false, e1, some_bind', hpv, if_true, e2, sameNames_ok s s (by omega), decide_true]
      have : (((putN s x).2.length : Int) - (s.length : Int) == (1 : Int)) = true := by rw [beq_iff_eq]; omega
      rw [this]
      rfl

end Go.Ev
