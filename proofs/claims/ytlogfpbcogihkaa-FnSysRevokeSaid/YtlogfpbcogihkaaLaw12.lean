/-
  Moving: the law.
-/
import Derived.Test.YtlogfpbcogihkaaLaw10
namespace Go.Ev
set_option linter.unusedVariables false
set_option linter.unusedSimpArgs false
set_option maxRecDepth 100000
set_option synthInstance.maxSize 2000
set_option synthInstance.maxHeartbeats 400000
/-! ### places, moving: the law -/

theorem sameBad (K : DKernel) : ∃ c, laws_sameKernel ((0, 0, 0, ()), [], [], 0, ()) K = some c := by
  have ht : ∀ T : List DEntry, ∃ c, laws_sameTree [] T = some c := fun T => by
    unfold laws_sameTree laws_sameTreeK
    cases ((([] : List DEntry).length : Int) != (T.length : Int)) with
    | true => exact ⟨_, rfl⟩
    | false =>
      have : loopF laws_sameTree_l0 ([], T, 0, ()) = some (.inl ()) := loopF_inr rfl
      rw [this]
      exact ⟨_, rfl⟩
  have hi : ∀ L : List Int, ∃ c, laws_sameInts [] L = some c := fun L => by
    unfold laws_sameInts laws_sameIntsK
    cases ((([] : List Int).length : Int) != (L.length : Int)) with
    | true => exact ⟨_, rfl⟩
    | false =>
      have : loopF laws_sameInts_l0 ([], L, 0, ()) = some (.inl ()) := loopF_inr rfl
      rw [this]
      exact ⟨_, rfl⟩
  obtain ⟨c1, e1⟩ := ht K.2.1
  obtain ⟨c2, e2⟩ := hi K.2.2.1
  unfold laws_sameKernel laws_sameKernelK
  simp only [e1, e2, B7]
  generalize (decide ((0 : Int) = K.1.1) && (decide ((0 : Int) = K.1.2.1) && (decide ((0 : Int) = K.1.2.2.1) && true))) = q
  cases q <;> cases c1 <;> cases c2 <;> exact ⟨_, rfl⟩

theorem l20Site_ok (p1 p2 p3 d : Int) (b : Dl20Rd) (T : List DEntry) (L : List Int) {m : Int} (hb : rdOk b m) (hm : m ≤ 100000) (hL : L.length ≤ 1000) : ∃ s b', spec_l20Site p1 p2 p3 d b T L = some (s, b', T, L) ∧ rdOk b' (m + 2) := by
  unfold spec_l20Site spec_l20SiteK
  obtain ⟨r1, b1, d1, _, _, hb1⟩ := pickT (IntKind.wrap .i64 ((L.length : Int) + 1)) b hb (by omega)
  obtain ⟨r2, b2, d2, _, _, hb2⟩ := pickT 16 b1 hb1 (by omega)
  simp only [d1, d2, B7]
  exact ⟨_, b2, rfl, hb2.mono (by omega)⟩

theorem pl_iff {xs : List Int} : plV xs = true ↔ xs.length ≤ 40 ∧ (∀ (i : Nat) (v : Int), xs[i]? = some v → -1 ≤ v ∧ v ≤ 29) ∧ ∀ (i j : Nat) (v : Int), xs[i]? = some v → xs[j]? = some v → 0 ≤ v → i = j := by
  constructor
  · intro h
    exact ⟨plV_len h, fun i v hv => (plV_get h hv).1, fun i j v hi hj h0 => pl_inj h hi hj h0⟩
  · rintro ⟨h1, h2, h3⟩
    unfold plV
    rw [Bool.and_eq_true, all_zip0 (p := fun i v => plOk xs i v)]
    refine ⟨fun i v hv => ?_, by simpa using h1⟩
    have hr := h2 i v hv
    unfold plOk rgt
    rw [decide_eq_true hr.1, decide_eq_true hr.2]
    by_cases h0 : v ≥ 0
    · have : noneI xs i v = true := by
        unfold noneI
        rw [List.all_eq_true]
        intro y hy
        obtain ⟨q, hq, rfl⟩ := List.mem_take_iff_getElem.1 hy
        simp only [Bool.not_eq_true', decide_eq_false_iff_not]
        intro e
        have := h3 q i v (by rw [List.getElem?_eq_getElem (by omega), e]) hv h0
        omega
      rw [this]
      simp
    · rw [decide_eq_false h0]; rfl

/-- what a place holds after a move -/
theorem moved_get {L : List Int} {f t : Nat} (hf : f < L.length) (ht : t < L.length) (i : Nat) : ((L.set t (L.getD f 0)).set f (-1))[i]? = if i = f then some (-1) else if i = t then some (L.getD f 0) else L[i]? := by
  rw [List.getElem?_set, List.getElem?_set]
  by_cases h1 : f = i
  · subst h1; simp [hf]
  · rw [if_neg h1, if_neg (Ne.symm h1)]
    by_cases h2 : t = i
    · subst h2; simp [ht]
    · rw [if_neg h2, if_neg (Ne.symm h2)]

theorem move_valid {p : DPiece} {T : List DEntry} {L : List Int} {d : Int} (hv : kernV (p, T, L, d, ()) = true) {f t : Nat} (hf : f < L.length) (ht : t < L.length) (h0 : L.getD f 0 ≥ 0) (h1 : ¬ L.getD t 0 ≥ 0) : kernV (p, T, (L.set t (L.getD f 0)).set f (-1), d, ()) = true := by
  obtain ⟨g1, g2, g3, g4, g5, g6⟩ := kernV_parts hv
  simp only at g1 g2 g3 g4 g5 g6
  have hLf : L[f]? = some (L.getD f 0) := iget_of hf
  have hLt : L[t]? = some (L.getD t 0) := iget_of ht
  obtain ⟨p1, p2, p3⟩ := pl_iff.1 g3
  have hlen : ((L.set t (L.getD f 0)).set f (-1)).length = L.length := by simp
  have hpl : plV ((L.set t (L.getD f 0)).set f (-1)) = true := by
    rw [pl_iff]
    refine ⟨by rw [hlen]; exact p1, fun i v hi => ?_, fun i j v hi hj hv0 => ?_⟩
    · rw [moved_get hf ht] at hi
      split at hi
      · obtain rfl := Option.some.inj hi; omega
      · split at hi
        · obtain rfl := Option.some.inj hi
          exact p2 f _ hLf
        · exact p2 i v hi
    · rw [moved_get hf ht] at hi hj
      split at hi
      · obtain rfl := Option.some.inj hi; omega
      · split at hj
        · obtain rfl := Option.some.inj hj; omega
        · split at hi
          · split at hj
            · omega
            · obtain rfl := Option.some.inj hi
              have := p3 f j _ hLf hj hv0
              omega
          · split at hj
            · obtain rfl := Option.some.inj hj
              have := p3 f i _ hLf hi hv0
              omega
            · exact p3 i j v hi hj hv0
  have hhas : ∀ i : Nat, hasI ((L.set t (L.getD f 0)).set f (-1)) (i : Int) = hasI L (i : Int) := fun i => by
    unfold hasI
    rw [Bool.eq_iff_iff, List.any_eq_true, List.any_eq_true]
    constructor
    · rintro ⟨x, hx, e⟩
      obtain ⟨q, hq⟩ := List.getElem?_of_mem hx
      rw [moved_get hf ht] at hq
      split at hq
      · obtain rfl := Option.some.inj hq; simp at e; try omega
      · split at hq
        · obtain rfl := Option.some.inj hq
          exact ⟨_, List.mem_of_getElem? hLf, e⟩
        · exact ⟨x, List.mem_of_getElem? hq, e⟩
    · rintro ⟨x, hx, e⟩
      obtain ⟨q, hq⟩ := List.getElem?_of_mem hx
      have hx0 : x = (i : Int) := by simpa using e
      by_cases q1 : q = f
      · subst q1
        rw [hLf] at hq
        obtain rfl := Option.some.inj hq
        refine ⟨_, List.mem_of_getElem? (i := t) ?_, e⟩
        rw [moved_get hf ht, if_neg, if_pos rfl]
        intro q2
        rw [q2] at h1
        exact h1 h0
      · by_cases q2 : q = t
        · subst q2
          rw [hLt] at hq
          obtain rfl := Option.some.inj hq
          exact absurd (by omega) h1
        · exact ⟨x, List.mem_of_getElem? (i := q) (by rw [moved_get hf ht, if_neg q1, if_neg q2]; exact hq), e⟩
  have h5 : (T.zipIdx.all fun q => knOk (p, T, (L.set t (L.getD f 0)).set f (-1), d, ()) q.2 q.1) = true := by
    rw [all_zip0 (p := fun i v => knOk (p, T, (L.set t (L.getD f 0)).set f (-1), d, ()) i v)]
    intro i v hi
    have := g5 i v hi
    unfold knOk at this ⊢
    simp only [hhas] at this ⊢
    exact this
  have h6 : (((L.set t (L.getD f 0)).set f (-1)).any fun n => decide (n ≥ (T.length : Int))) = false := by
    rw [List.any_eq_false]
    intro x hx
    obtain ⟨q, hq⟩ := List.getElem?_of_mem hx
    rw [moved_get hf ht] at hq
    simp only [decide_eq_true_eq]
    split at hq
    · obtain rfl := Option.some.inj hq; omega
    · split at hq
      · obtain rfl := Option.some.inj hq
        have := g6 _ (List.mem_of_getElem? hLf); omega
      · have := g6 x (List.mem_of_getElem? hq); omega
  have h4 : rgt d 0 100 = true := by simp [rgt]; omega
  show (pieceV p && (derV T && (plV _ && (rgt d 0 100 && ((T.zipIdx.all fun q => knOk (p, T, (L.set t (L.getD f 0)).set f (-1), d, ()) q.2 q.1) && !(((L.set t (L.getD f 0)).set f (-1)).any fun n => decide (n ≥ (T.length : Int)))))))) = true
  rw [g1, g2, hpl, h4, h5, h6]
  rfl

theorem FnSysMove_law (code : List Int) (h : WfD (.cons (.sl (.int .u8)) .nil) (code, ())) : laws_FnSysMove code = some true := by
  have hc : ∀ x ∈ code, 0 ≤ x ∧ x ≤ 255 := fun x hx => h.1.2 x hx
  unfold laws_FnSysMove laws_FnSysMoveK
  by_cases hl : ((code.length : Int) > 1048576)
  · simp [hl]
  · obtain ⟨b, e, hb⟩ := openE code hc
    obtain ⟨p1, p2, p3, d, b1, T, L, ek, hb1, hT, hL⟩ := l20Kernel_ok 14 b (by omega) (hb.mono (by omega))
    obtain ⟨f, b2, ef, hb2⟩ := l20Site_ok p1 p2 p3 d b1 T L hb1 (by omega) (by omega)
    obtain ⟨t, b3, et, hb3⟩ := l20Site_ok p1 p2 p3 d b2 T L hb2 (by omega) (by omega)
    have hD : spec_DrawSysMove code = some (p1, p2, p3, d, f, t, T, L) := by
      unfold spec_DrawSysMove spec_DrawSysMoveK
      simp only [e, ek, ef, et, B7]
    have hT' : T.length ≤ 1048577 := by omega
    have hL' : L.length ≤ 1048577 := by omega
    obtain ⟨q1, q2⟩ := sysMove_fit ((p1, p2, p3, ()), T, L, d, ()) f t
    simp only at q1 q2
    simp only [hl, decide_false, cond_false, hD, B7, impl_SysMove_ok ((p1, p2, p3, ()), T, L, d, ()) f t hT' hL', spec_SysMove_ok ((p1, p2, p3, ()), T, L, d, ()) f t hT' hL']
    rw [sameKernel_ok (((sysMove ((p1, p2, p3, ()), T, L, d, ()) f t).1, (sysMove ((p1, p2, p3, ()), T, L, d, ()) f t).2.1, (sysMove ((p1, p2, p3, ()), T, L, d, ()) f t).2.2.1, ()), (sysMove ((p1, p2, p3, ()), T, L, d, ()) f t).2.2.2.2.2.1, (sysMove ((p1, p2, p3, ()), T, L, d, ()) f t).2.2.2.2.2.2, (sysMove ((p1, p2, p3, ()), T, L, d, ()) f t).2.2.2.1, ()) (by simp only; omega) (by simp only; omega)]
    simp only [B7, Bool.not_true, Bool.not_false, cond_true, bne_self_eq_false, cond_false]
    cases hv : kernV ((p1, p2, p3, ()), T, L, d, ()) with
    | false =>
      have hr : sysMove ((p1, p2, p3, ()), T, L, d, ()) f t = kBad := by unfold sysMove; rw [hv]; rfl
      obtain ⟨c, ec⟩ := sameBad ((p1, p2, p3, ()), T, L, d, ())
      rw [hr]
      simp only [kBad, show ((3 : Int) != (0 : Int)) = true from rfl, cond_true, ec, B7, spec_KernelValid_ok ((p1, p2, p3, ()), T, L, d, ()) hT' hL', hv, live_ok]
      cases c <;> rfl
    | true =>
      cases hmv : (moveP L f t).1 with
      | false =>
        have hr : sysMove ((p1, p2, p3, ()), T, L, d, ()) f t = kSt ((p1, p2, p3, ()), T, L, d, ()) 1 := by unfold sysMove; rw [hv]; simp only [cond_true, hmv, cond_false]
        rw [hr]
        simp only [kSt, show ((1 : Int) != (0 : Int)) = true from rfl, cond_true, sameKernel_ok ((p1, p2, p3, ()), T, L, d, ()) hT' hL', B7, Bool.not_true, cond_false, live_ok]
      | true =>
        have hm := hmv
        unfold moveP at hm
        cases hcond : (slotIn L f && (slotIn L t && (decide (L.getD f.toNat 0 ≥ 0) && !decide (L.getD t.toNat 0 ≥ 0)))) with
        | false => rw [hcond] at hm; cases hm
        | true =>
          have hM : moveP L f t = (true, (L.set t.toNat (L.getD f.toNat 0)).set f.toNat (-1)) := by unfold moveP; rw [hcond]; rfl
          simp only [Bool.and_eq_true, Bool.not_eq_true', decide_eq_true_eq, decide_eq_false_iff_not] at hcond
          obtain ⟨hsf, hst, hf0, ht0⟩ := hcond
          obtain ⟨f0, f1⟩ := slotIn_iff.1 hsf
          obtain ⟨t0, t1⟩ := slotIn_iff.1 hst
          have hr : sysMove ((p1, p2, p3, ()), T, L, d, ()) f t = (p1, p2, p3, d, 0, T, (L.set t.toNat (L.getD f.toNat 0)).set f.toNat (-1)) := by unfold sysMove; rw [hv]; simp only [cond_true, hM]
          have hv' := move_valid hv f1 t1 hf0 ht0
          have hne : t.toNat ≠ f.toNat := fun q => by rw [q] at ht0; exact ht0 hf0
          have hlen : ((L.set t.toNat (L.getD f.toNat 0)).set f.toNat (-1)).length = L.length := by simp
          have gt : ((L.set t.toNat (L.getD f.toNat 0)).set f.toNat (-1))[t.toNat]? = some (L.getD f.toNat 0) := by rw [moved_get f1 t1, if_neg hne, if_pos rfl]
          have gf : ((L.set t.toNat (L.getD f.toNat 0)).set f.toNat (-1))[f.toNat]? = some (-1) := by rw [moved_get f1 t1, if_pos rfl]
          have hLt : L.getD t.toNat 0 = -1 := by
            have h7 : -1 ≤ L.getD t.toNat 0 ∧ L.getD t.toNat 0 ≤ 29 := (pl_iff.1 (kernV_parts hv).2.2.1).2.1 t.toNat _ (iget_of t1)
            omega
          -- and back
          have hback : moveP ((L.set t.toNat (L.getD f.toNat 0)).set f.toNat (-1)) t f = (true, L) := by
            generalize hX : (L.set t.toNat (L.getD f.toNat 0)).set f.toNat (-1) = X at hlen gt gf
            have d1 : X.getD t.toNat 0 = L.getD f.toNat 0 := by simp [List.getD, gt]
            have d2 : X.getD f.toNat 0 = -1 := by simp [List.getD, gf]
            have s1 : slotIn X t = true := slotIn_iff.2 ⟨t0, by omega⟩
            have s2 : slotIn X f = true := slotIn_iff.2 ⟨f0, by omega⟩
            unfold moveP
            rw [s1, s2, d1, d2, decide_eq_true hf0, show decide ((-1 : Int) ≥ 0) = false from rfl]
            simp only [Bool.not_false, Bool.and_self, cond_true]
            congr 1
            subst hX
            apply List.ext_getElem?
            intro i
            rw [List.getElem?_set, List.getElem?_set]
            by_cases i1 : t.toNat = i
            · subst i1
              rw [if_pos rfl, if_pos (by simp; exact t1), iget_of t1, hLt]
            · rw [if_neg i1]
              by_cases i2 : f.toNat = i
              · subst i2
                rw [if_pos rfl, if_pos (by simp; exact f1), iget_of f1]
              · rw [if_neg i2, moved_get f1 t1, if_neg (Ne.symm i2), if_neg (Ne.symm i1)]
          have hr2 : sysMove ((p1, p2, p3, ()), T, (L.set t.toNat (L.getD f.toNat 0)).set f.toNat (-1), d, ()) t f = (p1, p2, p3, d, 0, T, L) := by unfold sysMove; rw [hv']; simp only [cond_true, hback]
          rw [hr]
          simp only [show ((0 : Int) != (0 : Int)) = false from rfl, cond_false, impl_SysMove_ok ((p1, p2, p3, ()), T, (L.set t.toNat (L.getD f.toNat 0)).set f.toNat (-1), d, ()) t f hT' (show ((L.set t.toNat (L.getD f.toNat 0)).set f.toNat (-1)).length ≤ 1048577 by omega), B7, hr2,
            impl_KernelValid_ok ((p1, p2, p3, ()), T, (L.set t.toNat (L.getD f.toNat 0)).set f.toNat (-1), d, ()) hT' (show ((L.set t.toNat (L.getD f.toNat 0)).set f.toNat (-1)).length ≤ 1048577 by omega), hv', cond_true, sameTree_ok T hT', nnK_pos t0, nnK_pos f0, getK_some gt, getK_some gf, getK_some (iget_of f1), beq_self_eq_true, sameKernel_ok ((p1, p2, p3, ()), T, L, d, ()) hT' hL']

end Go.Ev
