/-
  The laws of revoking.
-/
import Derived.Test.YtlogfpbcogihkaaLaw15
namespace Go.Ev
set_option linter.unusedVariables false
set_option linter.unusedSimpArgs false
set_option maxRecDepth 100000
set_option synthInstance.maxSize 2000
set_option synthInstance.maxHeartbeats 400000
/-! ### revoking: the laws -/

theorem goL_count {α τ : Type} (c : α → Bool) (F : Nat → τ) : ∀ (r : List α) (i s : Nat), goL (fun _ x (s : Nat) => (.inl (bif c x then s + 1 else s) : Nat ⊕ τ)) F r i s = F (s + (r.filter c).length)
  | [], _, _ => rfl
  | x :: r, i, s => by
    simp only [goL, List.filter_cons]
    rw [goL_count c F r]
    cases h : c x with
    | false => simp
    | true =>
      simp only [cond_true, if_true, List.length_cons]
      congr 1
      omega

theorem goL_any {α τ : Type} (p : α → Bool) (F : Bool → τ) : ∀ (r : List α) (i : Nat) (s : Bool), goL (fun _ x (s : Bool) => (.inl (bif !s then p x else true) : Bool ⊕ τ)) F r i s = F (s || r.any p)
  | [], _, s => by simp [goL]
  | x :: r, i, s => by
    simp only [goL, List.any_cons]
    rw [goL_any p F r]
    cases s <;> cases p x <;> simp

theorem goL_sing {α τ : Type} (p : Nat → α → Bool) (F : Bool → τ) : ∀ (r : List α) (i : Nat) (s : Bool), goL (fun i x (s : Bool) => (.inl (bif p i x then false else s) : Bool ⊕ τ)) F r i s = F (s && (r.zipIdx i).all fun q => !p q.2 q.1)
  | [], _, s => by simp [goL]
  | x :: r, i, s => by
    simp only [goL, List.zipIdx_cons, List.all_cons]
    rw [goL_sing p F r]
    cases p i x <;> cases s <;> simp

theorem rev_inner (t e : Int) (l : List Int) (i : Nat) (x p1 p2 p3 d q1 q2 q3 d' : Int) (T Y : List DEntry) (L X : List Int) (hx : L[i]? = some x) (hl : l.length ≤ 1048577) :
    loopF laws_FnSysRevoke_l2 (t, l, e, (i : Int), false, 0, p1, p2, p3, T, L, d, q1, q2, q3, Y, X, d', ()) = some (t, l, e, (i : Int), l.any (fun y => y == x), p1, p2, p3, T, L, d, q1, q2, q3, Y, X, d', ()) := by
  have := loop_list0 (nxt := laws_FnSysRevoke_l2) l (fun j (s : Bool) => (t, l, e, (i : Int), s, (j : Int), p1, p2, p3, T, L, d, q1, q2, q3, Y, X, d', ())) (fun _ y s => .inl (bif !s then (y == x) else true)) (fun s => (t, l, e, (i : Int), s, p1, p2, p3, T, L, d, q1, q2, q3, Y, X, d', ())) false
    (fun j y s hy => ?_) (fun s => ?_) (st := (t, l, e, (i : Int), false, 0, p1, p2, p3, T, L, d, q1, q2, q3, Y, X, d', ())) rfl
  · rw [this, goL_any (fun y => y == x)]
    rfl
  · have hj := get_lt hy
    simp only [laws_FnSysRevoke_l2, laws_FnSysRevoke_l2K, dec_lt hy, cond_true, nnK_nat, getK_some hy, getK_some hx, wrapS (show j < 4611686018427387904 by omega), goTo_l]
    cases s <;> rfl
  · simp only [laws_FnSysRevoke_l2, laws_FnSysRevoke_l2K, dec_nlt, cond_false]

theorem rev_outer (t : Int) (l : List Int) (p1 p2 p3 d q1 q2 q3 d' : Int) (T Y : List DEntry) (L X : List Int) (w : Int → Bool) (hL : L.length ≤ 1048577) (hl : l.length ≤ 1048577)
    (hX : ∀ (i : Nat) x, L[i]? = some x → X[i]? = some (bif w x then -1 else x)) (hw : ∀ x ∈ L, w x = true → 0 ≤ x ∧ l.any (fun y => y == x) = true) :
    loopF laws_FnSysRevoke_l0 (t, l, 0, 0, p1, p2, p3, T, L, d, q1, q2, q3, Y, X, d', ()) = some (.inl (t, l, ((L.filter w).length : Int), p1, p2, p3, T, L, d, q1, q2, q3, Y, X, d', ())) := by
  have := loop_list1 (nxt := laws_FnSysRevoke_l0) L (fun i (s : Nat) => (t, l, (s : Int), (i : Int), p1, p2, p3, T, L, d, q1, q2, q3, Y, X, d', ())) (fun _ x s => .inl (bif w x then s + 1 else s)) (fun s => .inl (t, l, (s : Int), p1, p2, p3, T, L, d, q1, q2, q3, Y, X, d', ())) (fun i s => s ≤ i) 0
    (fun i x s hs hx => ?_) (fun i x s s' hs hx e => ?_) (fun s hs => ?_) (Nat.le_refl _) (st := (t, l, 0, 0, p1, p2, p3, T, L, d, q1, q2, q3, Y, X, d', ())) rfl
  · rw [this, goL_count w, Nat.zero_add]
  · have hi := get_lt hx
    have hg := hX i x hx
    have hm := hw x (List.mem_of_getElem? hx)
    simp only [laws_FnSysRevoke_l0, laws_FnSysRevoke_l0K, dec_lt hx, cond_true, nnK_nat, getK_some hx, goTo_l]
    rw [getK_some hg]
    cases hwx : w x with
    | false =>
      simp only [cond_false, bne_self_eq_false, wrapS (show i < 4611686018427387904 by omega)]
    | true =>
      obtain ⟨h0, ha⟩ := hm hwx
      rw [hwx] at hg
      rw [show ((bif true then (-1 : Int) else x) != x) = true by simp; omega]
      simp only [cond_true, wrapS (show s < 4611686018427387904 by omega)]
      rw [rev_inner t _ l i x p1 p2 p3 d q1 q2 q3 d' T Y L X hx hl]
      simp only [B7, nnK_nat]
      rw [getK_some hg, ha]
      simp only [cond_true, bne_self_eq_false, Bool.not_false, Bool.not_true, cond_false, wrapS (show i < 4611686018427387904 by omega)]
  · cases e
    cases w x <;> simp <;> omega
  · simp only [laws_FnSysRevoke_l0, laws_FnSysRevoke_l0K, dec_nlt, cond_false]

theorem Desc_ok {T : List DEntry} {n : Int} (hl : liveE T n = true) : impl_Descendants T n = some (desL T n.toNat) := by
  obtain ⟨hd, h0, h1, _⟩ := live_in hl
  have := derV_len hd
  have e : ((n.toNat : Nat) : Int) = n := by omega
  unfold impl_Descendants impl_DescendantsK
  have h2 := descendants_ok (d := T) (n := n.toNat) (by rw [e]; exact hl)
  rw [e] at h2
  rw [alive_ok T n (by omega), hl]
  simp only [B7, Bool.not_true, cond_false, h2]

theorem was_self {T : List DEntry} (hd : derV T = true) {n : Int} (h0 : 0 ≤ n) (hn : n.toNat < T.length) : wasE T n.toNat n = false := by
  unfold wasE
  cases h : des T n.toNat n.toNat with
  | false => simp
  | true => have := (des_lt hd hn h).1; omega

theorem DrawSysRevoke_ok (code : List Int) (hc : ∀ x ∈ code, 0 ≤ x ∧ x ≤ 255) : ∃ p1 p2 p3 d t T L, spec_DrawSysRevoke code = some (p1, p2, p3, d, t, T, L) ∧ T.length ≤ 20 ∧ L.length ≤ 50 := by
  obtain ⟨p1, p2, p3, d, t, T, L, hD, hT, hL⟩ := DrawSysDelete_ok code hc
  refine ⟨p1, p2, p3, d, t, T, L, ?_, hT, hL⟩
  unfold spec_DrawSysRevoke spec_DrawSysRevokeK
  simp only [hD, B7]

theorem FnSysRevoke_law (code : List Int) (h : WfD (.cons (.sl (.int .u8)) .nil) (code, ())) : laws_FnSysRevoke code = some true := by
  have hc : ∀ x ∈ code, 0 ≤ x ∧ x ≤ 255 := fun x hx => h.1.2 x hx
  unfold laws_FnSysRevoke laws_FnSysRevokeK
  by_cases hl : ((code.length : Int) > 1048576)
  · simp [hl]
  · obtain ⟨p1, p2, p3, d, t, T, L, hD, hT, hL⟩ := DrawSysRevoke_ok code hc
    have hT' : T.length ≤ 1048577 := by omega
    have hL' : L.length ≤ 1048577 := by omega
    obtain ⟨x, e1, e2, q1, q2⟩ := SysRevoke_same ((p1, p2, p3, ()), T, L, d, ()) t hT' hL'
    simp only at q1 q2
    simp only [hl, decide_false, cond_false, hD, B7, e1, e2]
    rw [sameKernel_ok ((x.1, x.2.1, x.2.2.1, ()), x.2.2.2.2.2.1, x.2.2.2.2.2.2, x.2.2.2.1, ()) (show x.2.2.2.2.2.1.length ≤ 1048577 by omega) (show x.2.2.2.2.2.2.length ≤ 1048577 by omega)]
    simp only [B7, Bool.not_true, Bool.not_false, cond_true, bne_self_eq_false, cond_false]
    cases hv : kernV ((p1, p2, p3, ()), T, L, d, ()) with
    | false =>
      have hx : x = kBad := by
        unfold spec_SysRevoke spec_SysRevokeK at e1
        rw [spec_KernelValid_ok ((p1, p2, p3, ()), T, L, d, ()) hT' hL', hv] at e1
        exact (Option.some.inj e1).symm
      obtain ⟨c, ec⟩ := sameBad ((p1, p2, p3, ()), T, L, d, ())
      subst hx
      simp only [kBad, show ((3 : Int) != (0 : Int)) = true from rfl, cond_true, ec, B7, spec_KernelValid_ok ((p1, p2, p3, ()), T, L, d, ()) hT' hL', hv, live_ok]
      cases c <;> rfl
    | true =>
      rcases revoke_cases ((p1, p2, p3, ()), T, L, d, ()) t hT' hL' hv with ex | ⟨t0, t1, n0, ex⟩
      · rw [e1] at ex
        obtain rfl := Option.some.inj ex
        simp only [kSt, show ((1 : Int) != (0 : Int)) = true from rfl, cond_true, sameKernel_ok ((p1, p2, p3, ()), T, L, d, ()) hT' hL', B7, Bool.not_true, cond_false, live_ok]
      · rw [e1] at ex
        obtain rfl := Option.some.inj ex
        have t1' : t.toNat < L.length := t1
        have n0' : 0 ≤ L.getD t.toNat 0 := n0
        have hLt := iget_of t1'
        obtain ⟨hli, hlt⟩ := place_live hv (List.mem_of_getElem? hLt) n0'
        have hlt' : (L.getD t.toNat 0).toNat < T.length := hlt
        have hder := (kern_iff.1 hv).2.1
        have hv' := revoke_valid hv (L.getD t.toNat 0).toNat
        have hem := emptied_len hv (L.getD t.toNat 0).toNat
        have hwas := was_self hder n0' hlt'
        have hdl := desL_len T (L.getD t.toNat 0).toNat
        have hDe : impl_Descendants T (L.getD t.toNat 0) = some (desL T (L.getD t.toNat 0).toNat) := Desc_ok hli
        have hXm : ∀ (i : Nat) x, L[i]? = some x → (L.map (clr (remL T (desL T (L.getD t.toNat 0).toNat))))[i]? = some (bif wasE T (L.getD t.toNat 0).toNat x then -1 else x) := fun i x hx => by
          rw [List.getElem?_map, hx, Option.map_some, clr_was hv _ (List.mem_of_getElem? hx)]
        have hw : ∀ x ∈ L, wasE T (L.getD t.toNat 0).toNat x = true → 0 ≤ x ∧ (desL T (L.getD t.toNat 0).toNat).any (fun y => y == x) = true := fun x hx hwx => by
          have hb := (kern_iff.1 hv).2.2.2.2.2 x hx
          unfold wasE at hwx
          simp only [Bool.and_eq_true, decide_eq_true_eq] at hwx
          refine ⟨hwx.1, List.any_eq_true.2 ⟨x, ?_, by simp⟩⟩
          rw [desL_mem]
          exact ⟨x.toNat, by omega, (des_lt hder (by omega) hwx.2).1, by omega, hwx.2⟩
        have hYl := remL_length (desL T (L.getD t.toNat 0).toNat) T
        have hXl : (L.map (clr (remL T (desL T (L.getD t.toNat 0).toNat)))).length = L.length := by simp
        have hXt := hXm _ _ hLt
        rw [hwas, cond_false] at hXt
        simp only [show ((0 : Int) != (0 : Int)) = false from rfl, cond_false, nnK_pos t0, getK_some hLt, hDe, B7]
        generalize hN : L.getD t.toNat 0 = n at *
        generalize L.map (clr (remL T (desL T n.toNat))) = X at *
        generalize remL T (desL T n.toNat) = Y at *
        rw [rev_outer t _ p1 p2 p3 d p1 p2 p3 d T Y L X (wasE T n.toNat) hL' (by omega) hXm hw]
        simp only [B7, endK, impl_KernelValid_ok ((p1, p2, p3, ()), Y, X, d, ()) (show Y.length ≤ 1048577 by omega) (show X.length ≤ 1048577 by omega), hv', cond_true, hem, beq_self_eq_true, nnK_pos t0, getK_some hXt, getK_some hLt]

/-! ### one origin -/

theorem one_root {T : List DEntry} (hd : derV T = true) {N : Nat} {o : Int} (hs : ∀ (j : Nat) v, T[j]? = some v → j ≠ N → v.2.2.1 = false → v.2.1 < 0 → v.1.2.1 ≠ o) :
    ∀ (f j : Nat) v, j < f → T[j]? = some v → v.2.2.1 = false → v.1.2.1 = o → j ≠ N → des T N j = true := by
  intro f
  induction f with
  | zero => intro j v h; omega
  | succ f ih =>
    intro j v hj hv hg ho hne
    have hjl := get_lt hv
    have hpj : par T j = v.2.1 := by unfold par; rw [getD_of hv]
    have hgj : gone T j = false := by unfold gone; rw [getD_of hv]; exact hg
    obtain ⟨a1, a2, a3, a4⟩ := (derV_iff.1 hd).2 j v hv
    by_cases hp : v.2.1 < 0
    · exact absurd ho (hs j v hv hne hg hp)
    · have hq0 : 0 ≤ v.2.1 := by omega
      obtain ⟨b1, b2⟩ := a4 hg hq0
      have hql : v.2.1.toNat < T.length := by omega
      obtain ⟨_, _, _, b3, _⟩ := within_iff.1 b2
      rw [des_eq hd hjl, hgj, hpj]
      by_cases hN : v.2.1 = (N : Int)
      · simp [hN]
      · have hq := ih v.2.1.toNat _ (by omega) (eget_of hql) b1 (by rw [← b3]; exact ho) (by omega)
        have := (des_lt hd hql hq).1
        have hgt : decide (v.2.1 > (N : Int)) = true := decide_eq_true (by omega)
        rw [hq, hgt]
        simp

theorem FnKernelRevoke_law (code : List Int) (h : WfD (.cons (.sl (.int .u8)) .nil) (code, ())) : laws_FnKernelRevoke code = some true := by
  have hc : ∀ x ∈ code, 0 ≤ x ∧ x ≤ 255 := fun x hx => h.1.2 x hx
  unfold laws_FnKernelRevoke laws_FnKernelRevokeK
  by_cases hl : ((code.length : Int) > 1048576)
  · simp [hl]
  · obtain ⟨p1, p2, p3, d, t, T, L, hD, hT, hL⟩ := DrawSysRevoke_ok code hc
    have hT' : T.length ≤ 1048577 := by omega
    have hL' : L.length ≤ 1048577 := by omega
    obtain ⟨x, e1, e2, q1, q2⟩ := SysRevoke_same ((p1, p2, p3, ()), T, L, d, ()) t hT' hL'
    simp only at q1 q2
    simp only [hl, decide_false, cond_false, hD, B7, e1, e2]
    rw [sameKernel_ok ((x.1, x.2.1, x.2.2.1, ()), x.2.2.2.2.2.1, x.2.2.2.2.2.2, x.2.2.2.1, ()) (show x.2.2.2.2.2.1.length ≤ 1048577 by omega) (show x.2.2.2.2.2.2.length ≤ 1048577 by omega)]
    simp only [B7, Bool.not_true, Bool.not_false, cond_true, bne_self_eq_false, cond_false]
    cases hv : kernV ((p1, p2, p3, ()), T, L, d, ()) with
    | false =>
      have hx : x = kBad := by
        unfold spec_SysRevoke spec_SysRevokeK at e1
        rw [spec_KernelValid_ok ((p1, p2, p3, ()), T, L, d, ()) hT' hL', hv] at e1
        exact (Option.some.inj e1).symm
      subst hx
      simp only [kBad, show ((3 : Int) != (0 : Int)) = true from rfl, Bool.not_true, cond_false, live_ok, B7]
    | true =>
      rcases revoke_cases ((p1, p2, p3, ()), T, L, d, ()) t hT' hL' hv with ex | ⟨t0, t1, n0, ex⟩
      · rw [e1] at ex
        obtain rfl := Option.some.inj ex
        simp only [kSt, show ((1 : Int) != (0 : Int)) = true from rfl, Bool.not_true, cond_false, live_ok, B7]
      · rw [e1] at ex
        obtain rfl := Option.some.inj ex
        have t1' : t.toNat < L.length := t1
        have n0' : 0 ≤ L.getD t.toNat 0 := n0
        have hLt := iget_of t1'
        obtain ⟨hli, hlt⟩ := place_live hv (List.mem_of_getElem? hLt) n0'
        have hlt' : (L.getD t.toNat 0).toNat < T.length := hlt
        have hder := (kern_iff.1 hv).2.1
        have hv' := revoke_valid hv (L.getD t.toNat 0).toNat
        have hwas := was_self hder n0' hlt'
        have hXt : (L.map (clr (remL T (desL T (L.getD t.toNat 0).toNat))))[t.toNat]? = some (L.getD t.toNat 0) := by
          rw [List.getElem?_map, hLt, Option.map_some, clr_was hv _ (List.mem_of_getElem? hLt), hwas]
          rfl
        have hYl := remL_length (desL T (L.getD t.toNat 0).toNat) T
        have hXl : (L.map (clr (remL T (desL T (L.getD t.toNat 0).toNat)))).length = L.length := by simp
        have hYg := fun (i : Nat) (v : DEntry) (hv : T[i]? = some v) => rev_get hder (L.getD t.toNat 0).toNat hv
        have hlive : (T.getD (L.getD t.toNat 0).toNat e0).2.2.1 = false := (live_in hli).2.2.2
        have hnd : ¬ des T (L.getD t.toNat 0).toNat (L.getD t.toNat 0).toNat = true := fun q => by have := (des_lt hder hlt' q).1; omega
        have hroot := fun (hs : ∀ (j : Nat) v, T[j]? = some v → j ≠ (L.getD t.toNat 0).toNat → v.2.2.1 = false → v.2.1 < 0 → v.1.2.1 ≠ (T.getD (L.getD t.toNat 0).toNat e0).1.2.1) => one_root hder hs
        have hTn := eget_of hlt'
        simp only [show ((0 : Int) != (0 : Int)) = false from rfl, Bool.not_false, cond_true, nnK_pos t0, getK_some hLt, nnK_pos n0', getK_some hTn]
        generalize hN : L.getD t.toNat 0 = n at *
        generalize hX : L.map (clr (remL T (desL T n.toNat))) = X at *
        generalize hY : remL T (desL T n.toNat) = Y at *
        generalize hE : T.getD n.toNat e0 = E at *
        by_cases hpar : E.2.1 ≥ 0
        · rw [decide_eq_true hpar]
          simp only [cond_true, live_ok, B7]
        · rw [decide_eq_false hpar]
          simp only [cond_false]
          have ec : ((E.1.1, E.1.2.1, E.1.2.2.1, E.1.2.2.2.1, ()) : DCap) = E.1 := rfl
          rw [ec]
          have hloop := loop_list0 (nxt := laws_FnKernelRevoke_l0) T (fun i (s : Bool) => (t, s, (i : Int), p1, p2, p3, T, L, d, p1, p2, p3, Y, X, d, E.1, ())) (fun i v s => .inl (bif ((i : Int) != n) && (!v.2.2.1 && (decide (v.2.1 < 0) && (v.1.2.1 == E.1.2.1))) then false else s)) (fun s => (t, s, p1, p2, p3, Y, X, d, E.1, ())) true
            (fun i v s hx => ?_) (fun s => ?_) (st := (t, true, 0, p1, p2, p3, T, L, d, p1, p2, p3, Y, X, d, E.1, ())) rfl
          · rw [goL_sing (fun (i : Nat) (v : DEntry) => ((i : Int) != n) && (!v.2.2.1 && (decide (v.2.1 < 0) && (v.1.2.1 == E.1.2.1))))] at hloop
            rw [hloop, Bool.true_and]
            have hgd : X.getD t.toNat 0 = n := by simp [List.getD, hXt]
            obtain ⟨x', e1', e2', _⟩ := SysDelete_same ((p1, p2, p3, ()), Y, X, d, ()) t (show Y.length ≤ 1048577 by omega) (show X.length ≤ 1048577 by omega)
            have hdel := delete_ok ((p1, p2, p3, ()), Y, X, d, ()) t (show Y.length ≤ 1048577 by omega) (show X.length ≤ 1048577 by omega) hv' t0 (show t.toNat < X.length by omega) (show 0 ≤ X.getD t.toNat 0 by rw [hgd]; exact n0')
            rw [e1'] at hdel
            obtain rfl := Option.some.inj hdel
            simp only [B7, e2', hgd]
            cases hs : (T.zipIdx 0).all fun q => !(((q.2 : Int) != n) && (!q.1.2.2.1 && (decide (q.1.2.1 < 0) && (q.1.1.2.1 == E.1.2.1)))) with
            | false => rfl
            | true =>
              have hs' := (all_zip0 (p := fun (i : Nat) (v : DEntry) => !(((i : Int) != n) && (!v.2.2.1 && (decide (v.2.1 < 0) && (v.1.2.1 == E.1.2.1)))))).1 hs
              have hall := hroot fun j v hv hne hg hp ho => by
                have := hs' j v hv
                have e1 : ((j : Int) != n) = true := by simp; omega
                simp [e1, hg, hp, ho] at this
              obtain ⟨_, hYd, _, _, _, _⟩ := kern_iff.1 hv'
              have hYn : Y[n.toNat]? = some E := by
                have := hYg _ _ hTn
                rw [if_neg hnd] at this
                exact this
              have hYE : Y.getD n.toNat e0 = E := getD_of hYn
              have huniq : ∀ (j : Nat) v, Y[j]? = some v → mE E.1.1 E.1.2.1 v = true → j = n.toNat := fun j v hv hm => by
                obtain ⟨w, hw⟩ := get_same hYl hv
                rw [hYg j w hw] at hv
                by_cases hdj : des T n.toNat j = true
                · rw [if_pos hdj] at hv
                  obtain rfl := Option.some.inj hv
                  unfold mE remE at hm
                  simp at hm
                · rw [if_neg hdj] at hv
                  obtain rfl := Option.some.inj hv
                  unfold mE at hm
                  simp only [Bool.and_eq_true, Bool.not_eq_true', decide_eq_true_eq] at hm
                  rcases Nat.decEq j n.toNat with hne | he
                  · exact absurd (hall (j + 1) j w (by omega) hw hm.1 hm.2.2 hne) hdj
                  · exact he
              have hmE : mE E.1.1 E.1.2.1 E = true := by
                unfold mE
                rw [hlive]
                simp
              obtain ⟨r0, r1⟩ := capV_rights ((derV_iff.1 hYd).2 _ _ hYn).1
              have hrd := rm_der hYd (show n.toNat < Y.length by omega) (by rw [hYE]; exact hlive)
              have hz : strN E.1.1 E.1.2.1 (rmC Y n.toNat) 0 = 0 := str_none _ _ fun v hv => by
                obtain ⟨j, hj⟩ := List.getElem?_of_mem hv
                obtain ⟨w, hw⟩ := get_same (rmC_length Y n.toNat) hj
                rw [rmC_get hw] at hj
                by_cases hjn : j = n.toNat
                · rw [if_pos hjn] at hj
                  obtain rfl := Option.some.inj hj
                  rfl
                · rw [if_neg hjn] at hj
                  obtain rfl := Option.some.inj hj
                  cases hmw : mE E.1.1 E.1.2.1 w with
                  | true => exact absurd (huniq j w hw hmw) hjn
                  | false =>
                    unfold mE at hmw ⊢
                    rw [updE_flag, updE_held]
                    exact hmw
              simp only [Bool.not_true, Bool.not_false, cond_true, strong_ok hYd, strong_ok hrd, B7, hz, str_one Y 0 n.toNat E hYn hmE huniq, Nat.zero_or, Int.toNat_of_nonneg r0, beq_self_eq_true]
              rfl
          · have hli := get_lt hx
            simp only [laws_FnKernelRevoke_l0, laws_FnKernelRevoke_l0K, dec_lt hx, cond_true, nnK_pos t0, getK_some hLt, nnK_nat, getK_some hx, wrapS (show i < 4611686018427387904 by omega), goTo_l]
            cases ((i : Int) != n) <;> cases v.2.2.1 <;> cases decide (v.2.1 < 0) <;> cases (v.1.2.1 == E.1.2.1) <;> rfl
          · simp only [laws_FnKernelRevoke_l0, laws_FnKernelRevoke_l0K, dec_nlt, cond_false]

end Go.Ev
