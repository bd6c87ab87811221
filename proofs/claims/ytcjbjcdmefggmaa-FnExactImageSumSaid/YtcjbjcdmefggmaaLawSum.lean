/-
  The sum of an image: what both functions compute; the law FnExactImageSum in plain Lean.
-/
import Derived.Test.YtcjbjcdmefggmaaEv3
import Derived.Test.YtcjbjcdmefggmaaWalk
namespace Go.Ev
set_option linter.unusedVariables false
set_option linter.unusedSimpArgs false
set_option maxRecDepth 100000
theorem toIntS_ok (xs : List Int) (h : xs.length ≤ 1048576) : laws_toIntS xs = some xs := by
  have hl : loopF laws_toIntS_l0 (xs, 0, List.replicate xs.length 0, ()) = some (xs.map id, ()) := by
    refine loop_map xs id (fun i s => (xs, (i : Int), s, ())) (fun s => (s, ())) _ (by simp) (fun i x s hs hx => ?_) (fun s hs => ?_) rfl
    · have hl := get_lt hx
      simp only [laws_toIntS_l0, laws_toIntS_l0K, dec_lt hx, cond_true, nnK_nat, getK_some hx]
      rw [chk_pos (by omega), getK_lt (by omega), wrapS (by omega)]
      rfl
    · simp only [laws_toIntS_l0, laws_toIntS_l0K, dec_nlt, cond_false]
  unfold laws_toIntS laws_toIntSK
  rw [chk_pos (by simp [bigRow]; omega), hl]
  simp

theorem eqIntS_ok (xs ys : List Int) (h : xs.length ≤ 1048576) : laws_eqIntS xs ys = some (decide (xs = ys)) := by
  unfold laws_eqIntS laws_eqIntSK
  by_cases hl : xs.length = ys.length
  · have e : ((xs.length : Int) != (ys.length : Int)) = false := by simp [hl]
    have hq : loopF laws_eqIntS_l0 (xs, ys, 0, ()) = some (if xs = ys then .inl () else .inr (false, ())) := by
      refine loop_eq2 xs ys (fun i => (xs, ys, (i : Int), ())) _ _ hl (fun i x y hx hy => ?_) ?_ rfl
      · have hl := get_lt hx
        simp only [laws_eqIntS_l0, laws_eqIntS_l0K, dec_lt hx, cond_true, nnK_nat, getK_some hx, getK_some hy, wrapS (show i < 4611686018427387904 by omega)]
        by_cases e : x = y
        · simp [e]
        · have : (x != y) = true := bne_iff_ne.mpr e
          simp [e, this]
      · simp only [laws_eqIntS_l0, laws_eqIntS_l0K, dec_nlt, cond_false]
    rw [e, cond_false, hq]
    by_cases h : xs = ys <;> simp [h, endK]
  · have e : ((xs.length : Int) != (ys.length : Int)) = true := by simp; omega
    rw [e, cond_true]
    have : ¬ xs = ys := fun e => hl (by rw [e])
    simp [this]

/-- one step of the sum -/
def sumStep (s x : Int) : Int := (37 * s + x % 65521) % 65521

theorem tmod_pos {a b : Int} (h : 0 ≤ a) : a.tmod b = a % b := by
  rw [Int.tmod_eq_emod_of_nonneg h]

theorem tm (x : Int) : (x.tmod 65521 = x % 65521 ∧ 0 ≤ x.tmod 65521) ∨ (x.tmod 65521 = x % 65521 - 65521 ∧ x % 65521 ≠ 0) ∨ (x.tmod 65521 = 0 ∧ x % 65521 = 0) := by
  by_cases h : 0 ≤ x
  · rw [tmod_pos h]; omega
  · have e : x = -(-x) := by omega
    rw [e, Int.neg_tmod, tmod_pos (by omega)]
    omega

theorem implStep {s x : Int} (h0 : 0 ≤ s) (h1 : s < 65521) : (Int.tmod (IntKind.wrap .i64 ((IntKind.wrap .i64 ((37 : Int) * s)) + (Int.tmod (IntKind.wrap .i64 ((Int.tmod x (65521 : Int)) + (65521 : Int))) (65521 : Int)))) (65521 : Int)) = sumStep s x := by
  have hx := tm x
  have hb : -65521 < x.tmod 65521 ∧ x.tmod 65521 < 65521 := by omega
  rw [wrap64 (n := 37 * s) (by omega) (by omega), wrap64 (n := x.tmod 65521 + 65521) (by omega) (by omega), tmod_pos (a := x.tmod 65521 + 65521) (by omega)]
  have : (x.tmod 65521 + 65521) % 65521 = x % 65521 := by omega
  rw [this, wrap64 (n := 37 * s + x % 65521) (by omega) (by omega), tmod_pos (a := 37 * s + x % 65521) (by omega)]
  rfl

theorem specStep {s x : Int} (h0 : 0 ≤ s) (h1 : s < 65521) : (bif decide ((Int.tmod x (65521 : Int)) < (0 : Int)) then (Int.tmod (IntKind.wrap .i64 ((IntKind.wrap .i64 ((37 : Int) * s)) + (IntKind.wrap .i64 ((Int.tmod x (65521 : Int)) + (65521 : Int))))) (65521 : Int))
    else (Int.tmod (IntKind.wrap .i64 ((IntKind.wrap .i64 ((37 : Int) * s)) + (Int.tmod x (65521 : Int)))) (65521 : Int))) = sumStep s x := by
  have hx := tm x
  have hb : -65521 < x.tmod 65521 ∧ x.tmod 65521 < 65521 := by omega
  rw [wrap64 (n := 37 * s) (by omega) (by omega), wrap64 (n := x.tmod 65521 + 65521) (by omega) (by omega)]
  have e2 : (37 * s + x % 65521).tmod 65521 = sumStep s x := tmod_pos (a := 37 * s + x % 65521) (by omega)
  by_cases h : x.tmod 65521 < 0
  · have e : x.tmod 65521 + 65521 = x % 65521 := by omega
    simp only [h, decide_true, cond_true]
    rw [e, wrap64 (n := 37 * s + x % 65521) (by omega) (by omega), e2]
  · have e : x.tmod 65521 = x % 65521 := by omega
    simp only [h, decide_false, cond_false]
    rw [e, wrap64 (n := 37 * s + x % 65521) (by omega) (by omega), e2]

def sumOf (xs : List Int) : Int := xs.foldl sumStep 1

theorem sumStep_range (s x : Int) : 0 ≤ sumStep s x ∧ sumStep s x < 65521 := by unfold sumStep; omega

theorem implSum_ok (xs : List Int) (h : xs.length ≤ 1048577) : impl_ImageSum xs = some (sumOf xs) := by
  unfold impl_ImageSum impl_ImageSumK
  have : loopF impl_ImageSum_l0 (1, xs, (xs.length : Int), 0, ()) = some _ := loop_list1 (nxt := impl_ImageSum_l0) xs (fun i s => (s, xs, (xs.length : Int), (i : Int), ())) (fun _ x s => .inl (sumStep s x)) (fun s => (s, ())) (fun _ s => 0 ≤ s ∧ s < 65521) 1 (fun i x s hs hx => ?_)
    (fun i x s s' hs hx e => by cases e; exact sumStep_range s x) (fun s _ => ?_) (by decide) rfl
  · rw [goL_fold] at this
    rw [this]
    rfl
  · have hl := get_lt hx
    simp only [impl_ImageSum_l0, impl_ImageSum_l0K, dec_lt hx, cond_true, nnK_nat, getK_some hx, wrapS (show i < 4611686018427387904 by omega), implStep hs.1 hs.2]
  · simp only [impl_ImageSum_l0, impl_ImageSum_l0K, dec_nlt, cond_false]

theorem specSum_ok (xs : List Int) (h : xs.length ≤ 1048577) : spec_ImageSum xs = some (sumOf xs) := by
  unfold spec_ImageSum spec_ImageSumK
  have : loopF spec_ImageSum_l0 (xs, 1, 0, ()) = some _ := loop_list1 (nxt := spec_ImageSum_l0) xs (fun i s => (xs, s, (i : Int), ())) (fun _ x s => .inl (sumStep s x)) (fun s => (s, ())) (fun _ s => 0 ≤ s ∧ s < 65521) 1 (fun i x s hs hx => ?_)
    (fun i x s s' hs hx e => by cases e; exact sumStep_range s x) (fun s _ => ?_) (by decide) rfl
  · rw [goL_fold] at this
    rw [this]
    rfl
  · have hl := get_lt hx
    simp only [spec_ImageSum_l0, spec_ImageSum_l0K, dec_lt hx, cond_true, nnK_nat, getK_some hx, wrapS (show i < 4611686018427387904 by omega)]
    rw [← specStep (x := x) hs.1 hs.2]
    cases decide ((Int.tmod x (65521 : Int)) < (0 : Int)) <;> rfl
  · simp only [spec_ImageSum_l0, spec_ImageSum_l0K, dec_nlt, cond_false]

theorem FnExactImageSum_law (xs : List Int) {p : Prop} (_ : p) : laws_FnExactImageSum xs = some true := by
  unfold laws_FnExactImageSum laws_FnExactImageSumK
  by_cases h : (xs.length : Int) > 1048576
  · simp [h]
  · have hl : xs.length ≤ 1048576 := by omega
    simp [h, toIntS_ok xs hl, implSum_ok xs (by omega), specSum_ok xs (by omega), eqIntS_ok xs xs hl]
end Go.Ev
