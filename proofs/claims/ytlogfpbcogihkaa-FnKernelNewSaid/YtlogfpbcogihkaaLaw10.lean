/-
  Kernels that are drawn; the law of valid kernels.
-/
import Derived.Test.YtlogfpbcogihkaaLaw9
import Derived.Test.YtlogfpbcogihkaaLaw7
import Derived.Test.YtlogfpbcogihkaaLaw8
namespace Go.Ev
set_option linter.unusedVariables false
set_option linter.unusedSimpArgs false
set_option maxRecDepth 100000
set_option synthInstance.maxSize 2000
set_option synthInstance.maxHeartbeats 400000
/-! ### a drawn kernel -/

theorem pickT (n : Int) (b : Dl20Rd) {m : Int} (h : rdOk b m) (hm : m ≤ 1000000) : ∃ r b', spec_l20Rd_pick n b = some (r, b') ∧ 0 ≤ r ∧ (1 ≤ n → r < n) ∧ rdOk b' (m + 1) := by
  by_cases hn : 1 ≤ n
  · obtain ⟨r, b', h1, h2, h3, h4⟩ := pickE n b h hm hn
    exact ⟨r, b', h1, h2, fun _ => h3, h4⟩
  · have hd : decide (n < 1) = true := decide_eq_true (by omega)
    have k1 := h.2.2.1
    have k2 := h.2.2.2
    refine ⟨0, (b.1, IntKind.wrap .i64 (b.2.1 + 1), ()), ?_, by omega, fun q => absurd q hn, ?_⟩
    · simp only [spec_l20Rd_pick, spec_l20Rd_pickK, hd, Bool.not_true, cond_false]
    · rw [wrap64 (n := b.2.1 + 1) (by omega) (by omega)]
      exact ⟨h.1, h.2.1, by show 0 ≤ b.2.1 + 1; omega, by show b.2.1 + 1 ≤ m + 1; omega⟩

theorem kern_step (n : Int) (k : Nat) (hk : k ≤ 100) (b : Dl20Rd) (a1 a2 a3 a4 p1 p2 p3 d : Int) (T : List DEntry) (L : List Int) (hT : T.length ≤ 1000) (hL : L.length ≤ 1000) {m : Int} (hb : rdOk b m) (hm : m ≤ 100000) :
    ∃ b' q1 q2 q3 d' T' L', spec_l20Kernel_l0 (n, ((k + 1 : Nat) : Int), b, a1, a2, a3, a4, p1, p2, p3, d, T, L, ()) = some (.inl (n, (k : Int), b', a1, a2, a3, a4, q1, q2, q3, d', T', L', ())) ∧ rdOk b' (m + 6) ∧ T'.length ≤ T.length + 1 ∧ L'.length ≤ L.length := by
  obtain ⟨r1, b1, d1, h10, h11, hb1⟩ := pickT (L.length : Int) b hb (by omega)
  obtain ⟨r2, b2, d2, h20, h21, hb2⟩ := pickT (L.length : Int) b1 hb1 (by omega)
  obtain ⟨r3, b3, d3, h30, h31, hb3⟩ := pickE 7 b2 hb2 (by omega) (by omega)
  have hd : decide (((k + 1 : Nat) : Int) > 0) = true := by simp
  have hw : IntKind.wrap .i64 (((k + 1 : Nat) : Int) - 1) = (k : Int) := by rw [wrap64 (by omega) (by omega)]; omega
  simp only [spec_l20Kernel_l0, spec_l20Kernel_l0K, hd, cond_true, d1, d2, d3, B7, hw]
  -- each call
  have mint : ∀ (F : KRes → Dl20Rd → Option ((Int × Int × Dl20Rd × Int × Int × Int × Int × Int × Int × Int × Int × (List DEntry) × (List Int) × Unit) ⊕ (Int × Dl20Rd × Int × Int × Int × Int × Int × Int × Int × Int × (List DEntry) × (List Int) × Unit))),
      ∃ (x : KRes) (b' : Dl20Rd), ((spec_l20Rd_pick (16 : Int) b3).bind fun r27 => (spec_l20Rd_pick (3 : Int) r27.2).bind fun r28 => (spec_l20Rd_pick (3 : Int) r28.2).bind fun r29 => nnK r29.1 fun i30 =>
        getK [(0 : Int), (0 : Int), (IntKind.wrap .i64 ((1 : Int) + r28.1))] i30 fun v31 => (spec_SysMint ((p1, p2, p3, ()), T, L, d, ()) r1 r2 r27.1 v31).bind fun r32 => F r32 r29.2) = F x b' ∧ rdOk b' (m + 6) ∧ kFit ((p1, p2, p3, ()), T, L, d, ()) x := by
    intro F
    obtain ⟨r4, b4, d4, h40, h41, hb4⟩ := pickE 16 b3 hb3 (by omega) (by omega)
    obtain ⟨r5, b5, d5, h50, h51, hb5⟩ := pickE 3 b4 hb4 (by omega) (by omega)
    obtain ⟨r6, b6, d6, h60, h61, hb6⟩ := pickE 3 b5 hb5 (by omega) (by omega)
    simp only [d4, d5, d6, B7, nnK_pos h60]
    rw [getK_lt (show r6.toNat < [(0 : Int), (0 : Int), (IntKind.wrap .i64 ((1 : Int) + r5))].length by simp; omega)]
    obtain ⟨x, e1, _, e3⟩ := SysMint_same ((p1, p2, p3, ()), T, L, d, ()) r1 r2 r4 _ (show T.length ≤ 1048577 by omega) (show L.length ≤ 1048577 by omega)
    rw [e1]
    exact ⟨x, b6, rfl, hb6.mono (by omega), e3⟩
  have retype : ∀ (F : KRes → Dl20Rd → Option ((Int × Int × Dl20Rd × Int × Int × Int × Int × Int × Int × Int × Int × (List DEntry) × (List Int) × Unit) ⊕ (Int × Dl20Rd × Int × Int × Int × Int × Int × Int × Int × Int × (List DEntry) × (List Int) × Unit))),
      ∃ (x : KRes) (b' : Dl20Rd), ((spec_l20Rd_pick (6 : Int) b3).bind fun r25 => (spec_SysRetype ((p1, p2, p3, ()), T, L, d, ()) (IntKind.wrap .i64 ((2 : Int) + r25.1)) r1).bind fun r26 => F r26 r25.2) = F x b' ∧ rdOk b' (m + 6) ∧ kFit ((p1, p2, p3, ()), T, L, d, ()) x := by
    intro F
    obtain ⟨r4, b4, d4, h40, h41, hb4⟩ := pickE 6 b3 hb3 (by omega) (by omega)
    simp only [d4, B7]
    obtain ⟨x, e1, _, e3⟩ := SysRetype_same ((p1, p2, p3, ()), T, L, d, ()) (IntKind.wrap .i64 ((2 : Int) + r4)) r1 (show T.length ≤ 1048577 by omega) (show L.length ≤ 1048577 by omega)
    rw [e1]
    exact ⟨x, b4, rfl, hb4.mono (by omega), e3⟩
  have out : ∀ (x : KRes) (b' : Dl20Rd), rdOk b' (m + 6) → kFit ((p1, p2, p3, ()), T, L, d, ()) x → ∃ b'' q1 q2 q3 d' T' L', (some (.inl (n, (k : Int), b', a1, a2, a3, a4, x.1, x.2.1, x.2.2.1, x.2.2.2.1, x.2.2.2.2.2.1, x.2.2.2.2.2.2, ())) : Option ((Int × Int × Dl20Rd × Int × Int × Int × Int × Int × Int × Int × Int × (List DEntry) × (List Int) × Unit) ⊕ (Int × Dl20Rd × Int × Int × Int × Int × Int × Int × Int × Int × (List DEntry) × (List Int) × Unit))) = some (.inl (n, (k : Int), b'', a1, a2, a3, a4, q1, q2, q3, d', T', L', ())) ∧ rdOk b'' (m + 6) ∧ T'.length ≤ T.length + 1 ∧ L'.length ≤ L.length :=
    fun x b' h1 h2 => ⟨b', _, _, _, _, _, _, rfl, h1, h2.1, h2.2⟩
  have hcase : r3 = 0 ∨ r3 = 1 ∨ r3 = 2 ∨ r3 = 3 ∨ r3 = 4 ∨ r3 = 5 ∨ r3 = 6 := by omega
  obtain ⟨xd, ed, _, fd⟩ := SysDelete_same ((p1, p2, p3, ()), T, L, d, ()) r1 (show T.length ≤ 1048577 by omega) (show L.length ≤ 1048577 by omega)
  obtain ⟨xr, er, _, fr⟩ := SysRevoke_same ((p1, p2, p3, ()), T, L, d, ()) r1 (show T.length ≤ 1048577 by omega) (show L.length ≤ 1048577 by omega)
  have n01 : ((1 : Int) == (0 : Int)) = false := rfl
  have hb3' : rdOk b3 (m + 6) := hb3.mono (by omega)
  rcases hcase with rfl | rfl | rfl | rfl | rfl | rfl | rfl
  · obtain ⟨x, b', e, h1, h2⟩ := retype fun x b' => some (.inl (n, (k : Int), b', a1, a2, a3, a4, x.1, x.2.1, x.2.2.1, x.2.2.2.1, x.2.2.2.2.2.1, x.2.2.2.2.2.2, ()))
    obtain ⟨b'', q1, q2, q3, d', T', L', e', h3⟩ := out x b' h1 h2
    exact ⟨b'', q1, q2, q3, d', T', L', e.trans e', h3⟩
  · obtain ⟨x, b', e, h1, h2⟩ := retype fun x b' => some (.inl (n, (k : Int), b', a1, a2, a3, a4, x.1, x.2.1, x.2.2.1, x.2.2.2.1, x.2.2.2.2.2.1, x.2.2.2.2.2.2, ()))
    obtain ⟨b'', q1, q2, q3, d', T', L', e', h3⟩ := out x b' h1 h2
    exact ⟨b'', q1, q2, q3, d', T', L', e.trans e', h3⟩
  · obtain ⟨x, b', e, h1, h2⟩ := retype fun x b' => some (.inl (n, (k : Int), b', a1, a2, a3, a4, x.1, x.2.1, x.2.2.1, x.2.2.2.1, x.2.2.2.2.2.1, x.2.2.2.2.2.2, ()))
    obtain ⟨b'', q1, q2, q3, d', T', L', e', h3⟩ := out x b' h1 h2
    exact ⟨b'', q1, q2, q3, d', T', L', e.trans e', h3⟩
  · obtain ⟨x, b', e, h1, h2⟩ := mint fun x b' => some (.inl (n, (k : Int), b', a1, a2, a3, a4, x.1, x.2.1, x.2.2.1, x.2.2.2.1, x.2.2.2.2.2.1, x.2.2.2.2.2.2, ()))
    obtain ⟨b'', q1, q2, q3, d', T', L', e', h3⟩ := out x b' h1 h2
    exact ⟨b'', q1, q2, q3, d', T', L', e.trans e', h3⟩
  · obtain ⟨x, b', e, h1, h2⟩ := mint fun x b' => some (.inl (n, (k : Int), b', a1, a2, a3, a4, x.1, x.2.1, x.2.2.1, x.2.2.2.1, x.2.2.2.2.2.1, x.2.2.2.2.2.2, ()))
    obtain ⟨b'', q1, q2, q3, d', T', L', e', h3⟩ := out x b' h1 h2
    exact ⟨b'', q1, q2, q3, d', T', L', e.trans e', h3⟩
  · obtain ⟨b'', q1, q2, q3, d', T', L', e', h3⟩ := out xd b3 hb3' fd
    refine ⟨b'', q1, q2, q3, d', T', L', ?_, h3⟩
    rw [ed]
    exact e'
  · obtain ⟨b'', q1, q2, q3, d', T', L', e', h3⟩ := out xr b3 hb3' fr
    refine ⟨b'', q1, q2, q3, d', T', L', ?_, h3⟩
    rw [er]
    exact e'

theorem kern_loop (n : Int) (a1 a2 a3 a4 : Int) : ∀ (k : Nat), k ≤ 100 → ∀ (b : Dl20Rd) (p1 p2 p3 d : Int) (T : List DEntry) (L : List Int), T.length + k ≤ 900 → L.length ≤ 1000 → rdOk b (1000 - 6 * (k : Int)) →
    ∃ b' q1 q2 q3 d' T' L', loopF spec_l20Kernel_l0 (n, (k : Int), b, a1, a2, a3, a4, p1, p2, p3, d, T, L, ()) = some (n, b', a1, a2, a3, a4, q1, q2, q3, d', T', L', ()) ∧ rdOk b' 1000 ∧ T'.length ≤ T.length + k ∧ L'.length ≤ L.length := by
  intro k
  induction k with
  | zero =>
    intro _ b p1 p2 p3 d T L hT hL hb
    exact ⟨b, p1, p2, p3, d, T, L, loopF_inr rfl, hb.mono (by omega), by omega, Nat.le_refl _⟩
  | succ k ih =>
    intro hk b p1 p2 p3 d T L hT hL hb
    obtain ⟨b1, q1, q2, q3, d', T', L', e, h1, h2, h3⟩ := kern_step n k (by omega) b a1 a2 a3 a4 p1 p2 p3 d T L (by omega) hL hb (by omega)
    obtain ⟨b2, s1, s2, s3, d2, T2, L2, e2, g1, g2, g3⟩ := ih (by omega) b1 q1 q2 q3 d' T' L' (by omega) (by omega) (h1.mono (by omega))
    exact ⟨b2, s1, s2, s3, d2, T2, L2, by rw [loopF_inl e]; exact e2, g1, by omega, by omega⟩

theorem l20Kernel_ok (n : Int) (b : Dl20Rd) (hn : 0 ≤ n) (hb : rdOk b 10) : ∃ p1 p2 p3 d b' T L, spec_l20Kernel n b = some (p1, p2, p3, d, b', T, L) ∧ rdOk b' 2000 ∧ T.length ≤ 20 ∧ L.length ≤ 50 := by
  unfold spec_l20Kernel spec_l20KernelK
  obtain ⟨r1, b1, d1, h10, h11, hb1⟩ := pickE 3 b hb (by omega) (by omega)
  obtain ⟨r2, b2, d2, h20, h21, hb2⟩ := pickE 9 b1 hb1 (by omega) (by omega)
  obtain ⟨r3, b3, d3, h30, h31, hb3⟩ := pickE 14 b2 hb2 (by omega) (by omega)
  obtain ⟨k, rfl⟩ : ∃ k : Nat, r3 = (k : Int) := ⟨r3.toNat, by omega⟩
  have hlt : r1.toNat < [(16 : Int), (12 : Int), (8 : Int)].length := by simp; omega
  simp only [d1, B7, nnK_pos h10]
  rw [getK_lt hlt]
  generalize [(16 : Int), (12 : Int), (8 : Int)][r1.toNat] = v
  simp only [d2, B7, spec_NewKernel_ok, d3]
  obtain ⟨g1, g2⟩ := newK_len v (IntKind.wrap .i64 (1 + r2))
  obtain ⟨b4, q1, q2, q3, d', T', L', e, k1, k2, k3⟩ := kern_loop n 0 0 0 0 k (by omega) b3 (newK v (IntKind.wrap .i64 (1 + r2))).1 (newK v (IntKind.wrap .i64 (1 + r2))).2.1 (newK v (IntKind.wrap .i64 (1 + r2))).2.2.1 (newK v (IntKind.wrap .i64 (1 + r2))).2.2.2.1 (newK v (IntKind.wrap .i64 (1 + r2))).2.2.2.2.1 (newK v (IntKind.wrap .i64 (1 + r2))).2.2.2.2.2 (by omega) (by omega) (hb3.mono (by omega))
  rw [e]
  obtain ⟨c, b5, d5, hb5⟩ := oddE n b4 k1 (by omega) hn
  simp only [B7, d5]
  cases c with
  | false => exact ⟨_, _, _, _, b5, T', L', rfl, hb5.mono (by omega), by omega, by omega⟩
  | true =>
    obtain ⟨r6, b6, d6, h60, h61, hb6⟩ := pickE 4 b5 hb5 (by omega) (by omega)
    simp only [cond_true, d6, B7, chk_pos (show L'.length + 1 ≤ bigRow by simp only [bigRow]; omega), chk_pos (show T'.length + 1 ≤ bigRow by simp only [bigRow]; omega)]
    cases (r6 == (0 : Int)) with
    | true =>
      obtain ⟨r7, b7, d7, h70, h71, hb7⟩ := pickE 2 b6 hb6 (by omega) (by omega)
      simp only [cond_true, d7, B7, nnK_pos h70]
      rw [getK_lt (show r7.toNat < [(-1 : Int), (101 : Int)].length by simp; omega)]
      exact ⟨_, _, _, _, b7, T', L', rfl, hb7.mono (by omega), by omega, by omega⟩
    | false =>
      cases (r6 == (1 : Int)) with
      | true => exact ⟨_, _, _, _, b6, T', _, rfl, hb6.mono (by omega), by omega, by simp; omega⟩
      | false =>
        cases (r6 == (2 : Int)) with
        | true => exact ⟨_, _, _, _, b6, T', L', rfl, hb6.mono (by omega), by omega, by omega⟩
        | false => exact ⟨_, _, _, _, b6, _, L', rfl, hb6.mono (by omega), by simp; omega, by omega⟩

/-! ### the check: the law of what was drawn -/

theorem kern_bad {p : DPiece} {T : List DEntry} {L : List Int} {d : Int} (h : kernV (p, T, L, d, ()) = true) (c : DCap) : kernV (p, T ++ [(c, -1, false, ())], L, d, ()) = false := by
  cases hk : kernV (p, T ++ [(c, -1, false, ())], L, d, ()) with
  | false => rfl
  | true =>
    obtain ⟨_, _, _, _, _, h6⟩ := kernV_parts h
    obtain ⟨_, _, _, _, h5, _⟩ := kernV_parts hk
    have h7 := h5 T.length (c, -1, false, ()) (by simp)
    have h8 : hasI L (T.length : Int) = false := by
      unfold hasI
      rw [List.any_eq_false]
      intro x hx
      have := h6 x hx
      simp only [decide_eq_true_eq]
      intro e
      rw [e] at this
      exact absurd this (by simp)
    unfold knOk at h7
    simp only [h8] at h7
    simp at h7

theorem kern_next {p : DPiece} {T : List DEntry} {L : List Int} {d : Int} (h : kernV (p, T, L, d, ()) = true) (h0 : T.length ≠ 0) : kernV (p, T, L, 0, ()) = false := by
  cases hk : kernV (p, T, L, 0, ()) with
  | false => rfl
  | true =>
    obtain ⟨_, h2, _, _, h5, _⟩ := kernV_parts hk
    have hlt : 0 < T.length := by omega
    have hg : T[0]? = some T[0] := List.getElem?_eq_getElem hlt
    have h7 := h5 0 _ hg
    simp only [derV, Bool.and_eq_true] at h2
    have h8 := all_zip0.1 h2.1 0 _ hg
    simp only [entOk, Bool.and_eq_true, Bool.not_eq_true', decide_eq_false_iff_not] at h8
    obtain ⟨c1, c2, _⟩ := h8
    have h9 : 0 ≤ T[0].1.2.1 := by
      unfold capGood rgt at c1
      rw [decide_eq_false c2] at c1
      simp only [cond_false, Bool.and_eq_true, decide_eq_true_eq] at c1
      exact c1.2.1.1
    unfold knOk at h7
    simp only [Bool.and_eq_true, Bool.not_eq_true', decide_eq_false_iff_not] at h7
    exact absurd h9 h7.2

theorem FnKernelValid_law (code : List Int) (h : WfD (.cons (.sl (.int .u8)) .nil) (code, ())) : laws_FnKernelValid code = some true := by
  have hc : ∀ x ∈ code, 0 ≤ x ∧ x ≤ 255 := fun x hx => h.1.2 x hx
  unfold laws_FnKernelValid laws_FnKernelValidK
  by_cases hl : ((code.length : Int) > 1048576)
  · simp [hl]
  · obtain ⟨b, e, hb⟩ := openE code hc
    obtain ⟨p1, p2, p3, d, b', T, L, ek, _, hT, hL⟩ := l20Kernel_ok 2 b (by omega) (hb.mono (by omega))
    have hD : spec_DrawKernelValid code = some (p1, p2, p3, d, T, L) := by
      unfold spec_DrawKernelValid spec_DrawKernelValidK
      simp only [e, ek, B7]
    simp only [hl, decide_false, cond_false, hD, B7, impl_KernelValid_ok ((p1, p2, p3, ()), T, L, d, ()) (show T.length ≤ 1048577 by omega) (show L.length ≤ 1048577 by omega), spec_KernelValid_ok ((p1, p2, p3, ()), T, L, d, ()) (show T.length ≤ 1048577 by omega) (show L.length ≤ 1048577 by omega), beq_self_eq_true, Bool.not_true]
    cases hv : kernV ((p1, p2, p3, ()), T, L, d, ()) with
    | false => simp [live_ok]
    | true =>
      have hbad := kern_bad hv (6, 0, 0, 0, ())
      simp only [Bool.not_true, cond_false, chk_pos (show T.length ≤ bigRow by simp only [bigRow]; omega), chk_pos (show T.length + 1 ≤ bigRow by simp only [bigRow]; omega),
        impl_KernelValid_ok ((p1, p2, p3, ()), T ++ [((6, 0, 0, 0, ()), -1, false, ())], L, d, ()) (show (T ++ [(((6, 0, 0, 0, ()), -1, false, ()) : DEntry)]).length ≤ 1048577 by simp; omega) (show L.length ≤ 1048577 by omega), hbad, B7, Bool.not_false, cond_true]
      by_cases h0 : T.length = 0
      · rw [show ((T.length : Int) == (0 : Int)) = true by simp [h0]]
        rfl
      · rw [show ((T.length : Int) == (0 : Int)) = false from beq_eq_false_iff_ne.mpr (by omega)]
        simp only [Bool.not_false, cond_true, impl_KernelValid_ok ((p1, p2, p3, ()), T, L, 0, ()) (show T.length ≤ 1048577 by omega) (show L.length ≤ 1048577 by omega), kern_next hv h0, B7]

end Go.Ev
