/-
  Rows of quotas: copied, held against each other, marked.
-/
import Derived.Test.YtbedpooicdikjaaDefs
import Derived.Test.YtbedpooicdikjaaEv4
namespace Go.Ev
set_option linter.unusedVariables false
set_option linter.unusedSimpArgs false
set_option maxRecDepth 100000
theorem toQuota_ok (a : DQuota) : laws_toQuota a = some a := rfl

theorem eqQuota_ok (a b : DQuota) : laws_eqQuota a b = some (decide (a = b)) := by
  obtain ⟨a0, a1, a2, ⟨⟩⟩ := a
  obtain ⟨b0, b1, b2, ⟨⟩⟩ := b
  unfold laws_eqQuota laws_eqQuotaK
  by_cases h0 : a0 = b0 <;> by_cases h1 : a1 = b1 <;> by_cases h2 : a2 = b2 <;> simp [h0, h1, h2, bneI]

theorem toQuotaS_ok (xs : List DQuota) (h : xs.length ≤ 1048577) : laws_toQuotaS xs = some xs := by
  have hl : loopF laws_toQuotaS_l0 (xs, 0, List.replicate xs.length (0, 0, 0, ()), ()) = some (xs.map id, ()) := by
    refine loop_map xs id (fun i s => (xs, (i : Int), s, ())) (fun s => (s, ())) _ (by simp) (fun i x s hs hx => ?_) (fun s hs => ?_) rfl
    · have hl := get_lt hx
      simp only [laws_toQuotaS_l0, laws_toQuotaS_l0K, dec_lt hx, cond_true, nnK_nat, getK_some hx, toQuota_ok, some_bind']
      rw [chk_pos (by omega), getK_lt (by omega), wrapS (by omega)]
      rfl
    · simp only [laws_toQuotaS_l0, laws_toQuotaS_l0K, dec_nlt, cond_false]
  unfold laws_toQuotaS laws_toQuotaSK
  rw [chk_pos (by simp [bigRow]; omega), hl]
  simp

theorem eqQuotaS_ok (xs ys : List DQuota) (h : xs.length ≤ 1048577) : laws_eqQuotaS xs ys = some (decide (xs = ys)) := by
  unfold laws_eqQuotaS laws_eqQuotaSK
  by_cases hl : xs.length = ys.length
  · have e : ((xs.length : Int) != (ys.length : Int)) = false := by simp [hl]
    have hq : loopF laws_eqQuotaS_l0 (xs, ys, 0, ()) = some (if xs = ys then .inl () else .inr (false, ())) := by
      refine loop_eq2 xs ys (fun i => (xs, ys, (i : Int), ())) _ _ hl (fun i x y hx hy => ?_) ?_ rfl
      · have hl := get_lt hx
        simp only [laws_eqQuotaS_l0, laws_eqQuotaS_l0K, dec_lt hx, cond_true, nnK_nat, getK_some hx, getK_some hy, eqQuota_ok, some_bind', wrapS (show i < 4611686018427387904 by omega)]
        by_cases e : x = y
        · simp [e]
        · have : decide (x = y) = false := decide_eq_false e
          simp [e, this]
      · simp only [laws_eqQuotaS_l0, laws_eqQuotaS_l0K, dec_nlt, cond_false]
    rw [e, cond_false, hq]
    by_cases h : xs = ys <;> simp [h, endK]
  · have e : ((xs.length : Int) != (ys.length : Int)) = true := by simp; omega
    rw [e, cond_true]
    have : ¬ xs = ys := fun e => hl (by rw [e])
    simp [this]

def EQuota (k : Int) : DQuota := (k, k + 1, k + 1 + 1, ())

theorem markQuotaS_ok (xs : List DQuota) (k : Int) (hk : 0 ≤ k) (hK : k + 3 * (xs.length : Int) ≤ 1000000000000) : laws_markQuotaS k xs = some (k + 3 * (xs.length : Int), marks EQuota 3 xs.length k) := by
  have : loopF laws_markQuotaS_l0 (k, 0, xs, ()) = some (k + (3 : Nat) * xs.length, marks EQuota 3 xs.length k, ()) := by
    refine loop_mark EQuota 3 (fun i k s => (k, (i : Int), s, ())) (fun k s => (k, s, ())) xs k 1000000000000 hk hK (fun i k s hk hkK hs hi => ?_) (fun k s hs => ?_) rfl
    · have hi' : i < s.length := by omega
      have hd : decide ((i : Int) < (s.length : Int)) = true := by simp; omega
      have w1 : IntKind.wrap .i64 (k + 1) = k + 1 := wrap64 (by omega) (by omega)
      have w2 : IntKind.wrap .i64 (k + 2) = k + 2 := wrap64 (by omega) (by omega)
      have w3 : IntKind.wrap .i64 (k + 3) = k + 3 := wrap64 (by omega) (by omega)
      have ws : IntKind.wrap .i64 ((i : Int) + 1) = (i : Int) + 1 := wrap64 (by omega) (by omega)
      simp [laws_markQuotaS_l0, laws_markQuotaS_l0K, hd, nnK_nat, chk, getK, hi', w1, w2, w3, ws, EQuota, Int.add_assoc]
    · have hd : decide ((xs.length : Int) < (s.length : Int)) = false := by simp; omega
      simp only [laws_markQuotaS_l0, laws_markQuotaS_l0K, hd, cond_false]
  unfold laws_markQuotaS laws_markQuotaSK
  rw [this]
  rfl

theorem heldQuotaS_ok (n : Nat) (k : Int) (hk : 0 ≤ k) (hK : k + 3 * (n : Int) ≤ 1000000000000) (hn : n ≤ 1048577) : laws_heldQuotaS (marks EQuota 3 n k) k = some (k + 3 * (n : Int)) := by
  have : loopF laws_heldQuotaS_l0 (marks EQuota 3 n k, k, 0, ()) = some (.inl (k + (3 : Nat) * n, ())) := by
    refine loop_held (nxt := laws_heldQuotaS_l0) EQuota 3 n k (fun i k' => (marks EQuota 3 n k, k', (i : Int), ())) (fun k => Sum.inl (k, ())) 1000000000000 hk hK (fun i k' hk hkK hx => ?_) (fun k => ?_) rfl
    · have hl := get_lt hx
      rw [marks_length] at hl
      have w1 : IntKind.wrap .i64 (k' + 1) = k' + 1 := wrap64 (by omega) (by omega)
      have w2 : IntKind.wrap .i64 (k' + 2) = k' + 2 := wrap64 (by omega) (by omega)
      have w3 : IntKind.wrap .i64 (k' + 3) = k' + 3 := wrap64 (by omega) (by omega)
      have ws : IntKind.wrap .i64 ((i : Int) + 1) = (i : Int) + 1 := wrap64 (by omega) (by omega)
      simp [laws_heldQuotaS_l0, laws_heldQuotaS_l0K, get_lt hx, nnK_nat, getK_some hx, w1, w2, w3, ws, EQuota, bneI, Int.add_assoc]
    · simp [laws_heldQuotaS_l0, laws_heldQuotaS_l0K, marks_length]
  unfold laws_heldQuotaS laws_heldQuotaSK
  rw [this]
  rfl

end Go.Ev
