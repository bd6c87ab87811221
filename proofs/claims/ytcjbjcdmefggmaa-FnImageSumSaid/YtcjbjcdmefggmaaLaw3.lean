/-
  Sums of images; the law FnImageSum in plain Lean.
-/
import Derived.Test.YtcjbjcdmefggmaaWalk
import Derived.Test.YtcjbjcdmefggmaaEv4
namespace Go.Ev
set_option linter.unusedVariables false
set_option linter.unusedSimpArgs false
set_option maxRecDepth 100000
set_option synthInstance.maxSize 2000
set_option synthInstance.maxHeartbeats 400000

theorem toIntS_ok (xs : List Int) (h : xs.length ≤ 1048576) : laws_toIntS xs = some xs := by
  have hl : loopF laws_toIntS_l0 (xs, 0, List.replicate xs.length 0, ()) = some (xs.map id, ()) := by
    refine loop_map xs id (fun i s => (xs, (i : Int), s, ())) (fun s => (s, ())) _ (by simp) (fun i x s hs hx => ?_) (fun s hs => ?_) rfl
    · have hl := get_lt hx
      simp only [laws_toIntS_l0, laws_toIntS_l0K, dec_lt hx, cond_true, nnK_nat, getK_some hx]
      rw [chk_pos (by omega), getK_lt (by omega), wrapS (by omega)]
      rfl
    · simp only [laws_toIntS_l0, laws_toIntS_l0K, dec_nlt, cond_false]
  unfold laws_toIntS laws_toIntSK
  rw [chk_pos (by simp [bigRow]; omega), hl]
  simp

theorem eqIntS_ok (xs ys : List Int) (h : xs.length ≤ 1048576) : laws_eqIntS xs ys = some (decide (xs = ys)) := by
  unfold laws_eqIntS laws_eqIntSK
  by_cases hl : xs.length = ys.length
  · have e : ((xs.length : Int) != (ys.length : Int)) = false := by simp [hl]
    have hq : loopF laws_eqIntS_l0 (xs, ys, 0, ()) = some (if xs = ys then .inl () else .inr (false, ())) := by
      refine loop_eq2 xs ys (fun i => (xs, ys, (i : Int), ())) _ _ hl (fun i x y hx hy => ?_) ?_ rfl
      · have hl := get_lt hx
        simp only [laws_eqIntS_l0, laws_eqIntS_l0K, dec_lt hx, cond_true, nnK_nat, getK_some hx, getK_some hy, wrapS (show i < 4611686018427387904 by omega)]
        by_cases e : x = y
        · simp [e]
        · have : (x != y) = true := bne_iff_ne.mpr e
          simp [e, this]
      · simp only [laws_eqIntS_l0, laws_eqIntS_l0K, dec_nlt, cond_false]
    rw [e, cond_false, hq]
    by_cases h : xs = ys <;> simp [h, endK]
  · have e : ((xs.length : Int) != (ys.length : Int)) = true := by simp; omega
    rw [e, cond_true]
    have : ¬ xs = ys := fun e => hl (by rw [e])
    simp [this]

/-- one step of the sum -/
def sumStep (s x : Int) : Int := (37 * s + x % 65521) % 65521

theorem tmod_pos {a b : Int} (h : 0 ≤ a) : a.tmod b = a % b := by
  rw [Int.tmod_eq_emod_of_nonneg h]

theorem tm (x : Int) : (x.tmod 65521 = x % 65521 ∧ 0 ≤ x.tmod 65521) ∨ (x.tmod 65521 = x % 65521 - 65521 ∧ x % 65521 ≠ 0) ∨ (x.tmod 65521 = 0 ∧ x % 65521 = 0) := by
  by_cases h : 0 ≤ x
  · rw [tmod_pos h]; omega
  · have e : x = -(-x) := by omega
    rw [e, Int.neg_tmod, tmod_pos (by omega)]
    omega

theorem implStep {s x : Int} (h0 : 0 ≤ s) (h1 : s < 65521) : (Int.tmod (IntKind.wrap .i64 ((IntKind.wrap .i64 ((37 : Int) * s)) + (Int.tmod (IntKind.wrap .i64 ((Int.tmod x (65521 : Int)) + (65521 : Int))) (65521 : Int)))) (65521 : Int)) = sumStep s x := by
  have hx := tm x
  have hb : -65521 < x.tmod 65521 ∧ x.tmod 65521 < 65521 := by omega
  rw [wrap64 (n := 37 * s) (by omega) (by omega), wrap64 (n := x.tmod 65521 + 65521) (by omega) (by omega), tmod_pos (a := x.tmod 65521 + 65521) (by omega)]
  have : (x.tmod 65521 + 65521) % 65521 = x % 65521 := by omega
  rw [this, wrap64 (n := 37 * s + x % 65521) (by omega) (by omega), tmod_pos (a := 37 * s + x % 65521) (by omega)]
  rfl

theorem specStep {s x : Int} (h0 : 0 ≤ s) (h1 : s < 65521) : (bif decide ((Int.tmod x (65521 : Int)) < (0 : Int)) then (Int.tmod (IntKind.wrap .i64 ((IntKind.wrap .i64 ((37 : Int) * s)) + (IntKind.wrap .i64 ((Int.tmod x (65521 : Int)) + (65521 : Int))))) (65521 : Int))
    else (Int.tmod (IntKind.wrap .i64 ((IntKind.wrap .i64 ((37 : Int) * s)) + (Int.tmod x (65521 : Int)))) (65521 : Int))) = sumStep s x := by
  have hx := tm x
  have hb : -65521 < x.tmod 65521 ∧ x.tmod 65521 < 65521 := by omega
  rw [wrap64 (n := 37 * s) (by omega) (by omega), wrap64 (n := x.tmod 65521 + 65521) (by omega) (by omega)]
  have e2 : (37 * s + x % 65521).tmod 65521 = sumStep s x := tmod_pos (a := 37 * s + x % 65521) (by omega)
  by_cases h : x.tmod 65521 < 0
  · have e : x.tmod 65521 + 65521 = x % 65521 := by omega
    simp only [h, decide_true, cond_true]
    rw [e, wrap64 (n := 37 * s + x % 65521) (by omega) (by omega), e2]
  · have e : x.tmod 65521 = x % 65521 := by omega
    simp only [h, decide_false, cond_false]
    rw [e, wrap64 (n := 37 * s + x % 65521) (by omega) (by omega), e2]

def sumOf (xs : List Int) : Int := xs.foldl sumStep 1

theorem sumStep_range (s x : Int) : 0 ≤ sumStep s x ∧ sumStep s x < 65521 := by unfold sumStep; omega

theorem implSum_ok (xs : List Int) (h : xs.length ≤ 1048577) : impl_ImageSum xs = some (sumOf xs) := by
  unfold impl_ImageSum impl_ImageSumK
  have : loopF impl_ImageSum_l0 (1, xs, (xs.length : Int), 0, ()) = some _ := loop_list1 (nxt := impl_ImageSum_l0) xs (fun i s => (s, xs, (xs.length : Int), (i : Int), ())) (fun _ x s => .inl (sumStep s x)) (fun s => (s, ())) (fun _ s => 0 ≤ s ∧ s < 65521) 1 (fun i x s hs hx => ?_)
    (fun i x s s' hs hx e => by cases e; exact sumStep_range s x) (fun s _ => ?_) (by decide) rfl
  · rw [goL_fold] at this
    rw [this]
    rfl
  · have hl := get_lt hx
    simp only [impl_ImageSum_l0, impl_ImageSum_l0K, dec_lt hx, cond_true, nnK_nat, getK_some hx, wrapS (show i < 4611686018427387904 by omega), implStep hs.1 hs.2, goTo_l]
  · simp only [impl_ImageSum_l0, impl_ImageSum_l0K, dec_nlt, cond_false]

theorem specSum_ok (xs : List Int) (h : xs.length ≤ 1048577) : spec_ImageSum xs = some (sumOf xs) := by
  unfold spec_ImageSum spec_ImageSumK
  have : loopF spec_ImageSum_l0 (xs, 1, 0, ()) = some _ := loop_list1 (nxt := spec_ImageSum_l0) xs (fun i s => (xs, s, (i : Int), ())) (fun _ x s => .inl (sumStep s x)) (fun s => (s, ())) (fun _ s => 0 ≤ s ∧ s < 65521) 1 (fun i x s hs hx => ?_)
    (fun i x s s' hs hx e => by cases e; exact sumStep_range s x) (fun s _ => ?_) (by decide) rfl
  · rw [goL_fold] at this
    rw [this]
    rfl
  · have hl := get_lt hx
    simp only [spec_ImageSum_l0, spec_ImageSum_l0K, dec_lt hx, cond_true, nnK_nat, getK_some hx, wrapS (show i < 4611686018427387904 by omega)]
    rw [← specStep (x := x) hs.1 hs.2]
    cases decide ((Int.tmod x (65521 : Int)) < (0 : Int)) <;> rfl
  · simp only [spec_ImageSum_l0, spec_ImageSum_l0K, dec_nlt, cond_false]



/-! ### draws -/

/-- a reader: bytes, no more than 2000, and how often it was asked -/
def rdOk (b : Dl20Rd) (m : Int) : Prop := b.1.length ≤ 2000 ∧ (∀ x ∈ b.1, 0 ≤ x ∧ x ≤ 255) ∧ 0 ≤ b.2.1 ∧ b.2.1 ≤ m

theorem wrapU {x : Int} (h : 0 ≤ x) (h1 : x < 18446744073709551616) : IntKind.wrap .u64 x = x := by
  simp [IntKind.wrap, IntKind.bits, IntKind.signed]
  omega

theorem draw_ok (n : Int) (b : Dl20Rd) {m : Int} (h : rdOk b m) (hm : m ≤ 1000000000) (hn : 1 ≤ n) : ∃ r, spec_l20Rd_pick n b = some (r, (b.1, b.2.1 + 1, ())) ∧ 0 ≤ r ∧ r < n := by
  obtain ⟨h1, h2, h3, h4⟩ := h
  unfold spec_l20Rd_pick spec_l20Rd_pickK
  have e0 : decide (n < 1) = false := decide_eq_false (by omega)
  simp only [e0, Bool.not_false, cond_true]
  rw [wrap64 (n := b.2.1 + 1) (by omega) (by omega), wrap64 (n := b.2.1 + 1 - 1) (by omega) (by omega), show b.2.1 + 1 - 1 = b.2.1 from by omega]
  by_cases hz : (b.1.length : Int) = 0
  · simp [hz]; omega
  · have e1 : ((b.1.length : Int) == 0) = false := by simpa using hz
    simp only [e1, cond_false]
    by_cases hlt : b.2.1 < (b.1.length : Int)
    · have hl : b.2.1.toNat < b.1.length := by omega
      have hv := h2 b.1[b.2.1.toNat] (List.getElem_mem hl)
      simp only [hlt, decide_true, cond_true, nnK_pos h3]
      rw [getK_lt hl, chk_pos (by omega), wrap64 (n := b.1[b.2.1.toNat]) (by omega) (by omega), Int.tmod_eq_emod_of_nonneg (by omega)]
      exact ⟨_, rfl, Int.emod_nonneg _ (by omega), Int.emod_lt_of_pos _ (by omega)⟩
    · simp only [hlt, decide_false, cond_false]
      have hp : (0 : Int) < (b.1.length : Int) := by omega
      rw [chk_pos hz, Int.tmod_eq_emod_of_nonneg (a := b.2.1) h3]
      have g1 := Int.emod_nonneg b.2.1 hz
      have g2 := Int.emod_lt_of_pos b.2.1 hp
      rw [nnK_pos g1, getK_lt (show (b.2.1 % (b.1.length : Int)).toNat < b.1.length by omega), chk_pos hz, wrap64 (n := b.2.1 * 7) (by omega) (by omega), wrap64 (n := b.2.1 * 7 + 3) (by omega) (by omega), Int.tmod_eq_emod_of_nonneg (a := b.2.1 * 7 + 3) (by omega)]
      have g3 := Int.emod_nonneg (b.2.1 * 7 + 3) hz
      have g4 := Int.emod_lt_of_pos (b.2.1 * 7 + 3) hp
      rw [nnK_pos g3, getK_lt (show ((b.2.1 * 7 + 3) % (b.1.length : Int)).toNat < b.1.length by omega), chk_pos hz, chk_pos (show n ≠ 0 by omega)]
      have hv := h2 _ (List.getElem_mem (show (b.2.1 % (b.1.length : Int)).toNat < b.1.length by omega))
      have hw := h2 _ (List.getElem_mem (show ((b.2.1 * 7 + 3) % (b.1.length : Int)).toNat < b.1.length by omega))
      generalize b.1[(b.2.1 % (b.1.length : Int)).toNat]'(by omega) = v at hv
      generalize b.1[((b.2.1 * 7 + 3) % (b.1.length : Int)).toNat]'(by omega) = w at hw
      have hq1 : 0 ≤ Int.tdiv b.2.1 (b.1.length : Int) := by rw [Int.tdiv_eq_ediv_of_nonneg h3]; exact Int.ediv_nonneg h3 (by omega)
      have hq2 : Int.tdiv b.2.1 (b.1.length : Int) ≤ b.2.1 := by rw [Int.tdiv_eq_ediv_of_nonneg h3]; exact Int.ediv_le_self _ h3
      generalize Int.tdiv b.2.1 (b.1.length : Int) = q at hq1 hq2
      rw [wrap64 (n := v) (by omega) (by omega), wrap64 (n := v * 131) (by omega) (by omega), wrap64 (n := w) (by omega) (by omega), wrap64 (n := w * 1117) (by omega) (by omega), wrap64 (n := v * 131 + w * 1117) (by omega) (by omega), wrap64 (n := b.2.1 * 29) (by omega) (by omega),
        wrap64 (n := v * 131 + w * 1117 + b.2.1 * 29) (by omega) (by omega), wrap64 (n := q) (by omega) (by omega), wrap64 (n := q * 53) (by omega) (by omega), wrap64 (n := v * 131 + w * 1117 + b.2.1 * 29 + q * 53) (by omega) (by omega)]
      generalize hX : v * 131 + w * 1117 + b.2.1 * 29 + q * 53 = X
      have hX0 : 0 ≤ X ∧ X < 1000000000000 := by omega
      have hY : Int.tdiv X 64 = X / 64 := Int.tdiv_eq_ediv_of_nonneg hX0.1
      rw [hY, wrap64 (n := X / 64) (by omega) (by omega)]
      have hxor : (BitVec.ofInt 64 X ^^^ BitVec.ofInt 64 (X / 64)).toNat < 1099511627776 := by
        rw [BitVec.toNat_xor]
        have small : ∀ z : Int, 0 ≤ z → z < 1000000000000 → (BitVec.ofInt 64 z).toNat < 2 ^ 40 := fun z h0 h1 => by
          rw [BitVec.toNat_ofInt, Int.emod_eq_of_lt h0 (by show z < ((2 ^ 64 : Nat) : Int); omega)]
          omega
        exact Nat.xor_lt_two_pow (n := 40) (small X hX0.1 hX0.2) (small (X / 64) (by omega) (by omega))
      rw [wrap64 (by omega) (by omega), Int.tmod_eq_emod_of_nonneg (by omega)]
      exact ⟨_, rfl, Int.emod_nonneg _ (by omega), Int.emod_lt_of_pos _ (by omega)⟩


/-! ### the law FnImageSum -/

theorem xor_one (n : Nat) : (n % 2 = 0 ∧ n ^^^ 1 = n + 1) ∨ (n % 2 = 1 ∧ (n ^^^ 1) + 1 = n) := by
  have h1 : (n ^^^ 1) / 2 = n / 2 := by rw [Nat.xor_div_two]; simp
  have h2 : ((n ^^^ 1) % 2 = 1) ↔ ¬ (n % 2 = 1) := by
    have := Nat.testBit_xor n 1 0
    simp only [Nat.testBit_zero] at this
    rcases Nat.mod_two_eq_zero_or_one n with h | h <;> rcases Nat.mod_two_eq_zero_or_one (n ^^^ 1) with h' | h' <;> simp [h, h'] at this ⊢
  omega

/-- one bit over: one more or one less -/
theorem flip_ok {v : Int} (h0 : -9223372036854775808 ≤ v) (h1 : v ≤ 9223372036854775807) :
    IntKind.wrap .i64 (((BitVec.ofInt 64 v ^^^ BitVec.ofInt 64 (1 : Int)).toNat : Int)) = v + 1 ∨ IntKind.wrap .i64 (((BitVec.ofInt 64 v ^^^ BitVec.ofInt 64 (1 : Int)).toNat : Int)) = v - 1 := by
  have e : (BitVec.ofInt 64 v ^^^ BitVec.ofInt 64 (1 : Int)).toNat = (BitVec.ofInt 64 v).toNat ^^^ 1 := by
    rw [BitVec.toNat_xor]; rfl
  have h2 : (BitVec.ofInt 64 v).toNat = (v % 18446744073709551616).toNat := BitVec.toNat_ofInt ..
  rw [e]
  have hx := xor_one (BitVec.ofInt 64 v).toNat
  generalize (BitVec.ofInt 64 v).toNat = t at hx h2 ⊢
  generalize t ^^^ 1 = u at hx ⊢
  simp only [IntKind.wrap, IntKind.bits, IntKind.signed]
  by_cases hv : 0 ≤ v
  · have ht : (t : Int) = v := by omega
    rcases hx with hx | hx <;> (simp; split <;> omega)
  · have ht : (t : Int) = v + 18446744073709551616 := by omega
    rcases hx with hx | hx <;> (simp; split <;> omega)


theorem sumOf_range (xs : List Int) : 0 ≤ sumOf xs ∧ sumOf xs < 65521 := by
  have : ∀ (r : List Int) (s : Int), 0 ≤ s ∧ s < 65521 → 0 ≤ r.foldl sumStep s ∧ r.foldl sumStep s < 65521 := by
    intro r
    induction r with
    | nil => intro s h; exact h
    | cons x r ih => intro s _; exact ih _ (sumStep_range s x)
  exact this xs 1 (by decide)

theorem fold_ne : ∀ (r : List Int) (s t : Int), (0 ≤ s ∧ s < 65521) → (0 ≤ t ∧ t < 65521) → s ≠ t → r.foldl sumStep s ≠ r.foldl sumStep t
  | [], _, _, _, _, h => h
  | x :: r, s, t, hs, ht, h => by
    refine fold_ne r _ _ (sumStep_range s x) (sumStep_range t x) ?_
    unfold sumStep
    omega

theorem sum_flip {xs : List Int} {i : Nat} {v u : Int} (hv : xs[i]? = some v) (hu : u = v + 1 ∨ u = v - 1) : sumOf (xs.set i u) ≠ sumOf xs := by
  have hi := get_lt hv
  have hvi : xs[i] = v := (List.getElem?_eq_some_iff.1 hv).2
  have e1 : xs.set i u = xs.take i ++ u :: xs.drop (i + 1) := by rw [List.set_eq_take_append_cons_drop, if_pos hi]
  have e2 : xs = xs.take i ++ v :: xs.drop (i + 1) := by rw [← hvi, ← List.drop_eq_getElem_cons hi, List.take_append_drop]
  unfold sumOf
  rw [e1]
  conv => rhs; rw [e2]
  rw [List.foldl_append, List.foldl_append, List.foldl_cons, List.foldl_cons]
  have hs := sumOf_range (xs.take i)
  unfold sumOf at hs
  refine fold_ne _ _ _ (sumStep_range _ _) (sumStep_range _ _) ?_
  unfold sumStep
  omega

def inR (x : Int) : Prop := -9223372036854775808 ≤ x ∧ x ≤ 9223372036854775807

theorem draw_loop : ∀ (f : Nat) (b : Dl20Rd) (s : List Int), rdOk b (1000 - 3 * (f : Int)) → s.length + f ≤ 8 → (∀ x ∈ s, inR x) →
    ∃ xs, loopF spec_DrawImageSum_l0 ((f : Int), b, s, ()) = some (xs, ()) ∧ xs.length ≤ 8 ∧ ∀ x ∈ xs, inR x := by
  intro f
  induction f with
  | zero =>
    intro b s _ hl hs
    exact ⟨s, loopF_inr rfl, by omega, hs⟩
  | succ f ih =>
    intro b s hb hl hs
    obtain ⟨r1, d1, p1, q1⟩ := draw_ok 256 b hb (by omega) (by omega)
    have hb1 : rdOk (b.1, b.2.1 + 1, ()) (1000 - 3 * ((f + 1 : Nat) : Int) + 1) := ⟨hb.1, hb.2.1, by have := hb.2.2.1; show 0 ≤ b.2.1 + 1; omega, by have := hb.2.2.2; show b.2.1 + 1 ≤ _; omega⟩
    obtain ⟨r2, d2, p2, q2⟩ := draw_ok 256 _ hb1 (by omega) (by omega)
    have hb2 : rdOk (b.1, b.2.1 + 1 + 1, ()) (1000 - 3 * ((f + 1 : Nat) : Int) + 2) := ⟨hb.1, hb.2.1, by have := hb.2.2.1; show 0 ≤ b.2.1 + 1 + 1; omega, by have := hb.2.2.2; show b.2.1 + 1 + 1 ≤ _; omega⟩
    obtain ⟨r3, d3, p3, q3⟩ := draw_ok 6 _ hb2 (by omega) (by omega)
    have hd : decide (((f + 1 : Nat) : Int) > 0) = true := by simp
    have hlt : r3.toNat < [r1, (-1 : Int), 65521, 9223372036854775807, -9223372036854775808, IntKind.wrap .i64 (r2 * 999)].length := by simp; omega
    have hs1 : spec_DrawImageSum_l0 (((f + 1 : Nat) : Int), b, s, ()) = some (.inl ((f : Int), (b.1, b.2.1 + 1 + 1 + 1, ()), s ++ [[r1, (-1 : Int), 65521, 9223372036854775807, -9223372036854775808, IntKind.wrap .i64 (r2 * 999)][r3.toNat]], ())) := by
      simp only [spec_DrawImageSum_l0, spec_DrawImageSum_l0K, hd, cond_true, d1, d2, d3, some_bind', nnK_pos p3]
      rw [getK_lt hlt, chk_pos (by simp only [bigRow]; omega), wrap64 (by omega) (by omega), show ((f + 1 : Nat) : Int) - 1 = (f : Int) from by omega]
    rw [loopF_inl hs1]
    refine ih _ _ ⟨hb.1, hb.2.1, by have := hb.2.2.1; show 0 ≤ b.2.1 + 1 + 1 + 1; omega, by have := hb.2.2.2; show b.2.1 + 1 + 1 + 1 ≤ _; omega⟩ (by simp; omega) fun x hx => ?_
    rcases List.mem_append.1 hx with hx | hx
    · exact hs x hx
    · rw [List.mem_singleton] at hx
      have hm := List.getElem_mem hlt
      rw [← hx] at hm
      rw [wrap64 (n := r2 * 999) (by omega) (by omega)] at hm
      simp only [List.mem_cons, List.not_mem_nil, or_false] at hm
      unfold inR
      omega

theorem open_ok (code : List Int) (hc : ∀ x ∈ code, 0 ≤ x ∧ x ≤ 255) : ∃ b, spec_l20Open code = some b ∧ rdOk b 0 := by
  unfold spec_l20Open spec_l20OpenK
  by_cases h : ((code.length : Int) > 2000)
  · simp only [h, decide_true, cond_true]
    rw [chk_pos (by omega)]
    exact ⟨_, rfl, by simp; omega, fun x hx => hc x (List.mem_of_mem_take hx), by simp, by simp⟩
  · simp only [h, decide_false, cond_false]
    exact ⟨_, rfl, by show code.length ≤ 2000; omega, hc, by simp, by simp⟩

theorem DrawImageSum_ok (code : List Int) (hc : ∀ x ∈ code, 0 ≤ x ∧ x ≤ 255) : ∃ xs, spec_DrawImageSum code = some xs ∧ xs.length ≤ 8 ∧ ∀ x ∈ xs, inR x := by
  unfold spec_DrawImageSum spec_DrawImageSumK
  obtain ⟨b, hb, hr⟩ := open_ok code hc
  rw [hb]
  obtain ⟨r, d, p, q⟩ := draw_ok 8 b hr (by omega) (by omega)
  simp only [some_bind', d]
  obtain ⟨m, rfl⟩ : ∃ m : Nat, r = (m : Int) := ⟨r.toNat, by omega⟩
  obtain ⟨xs, h1, h2, h3⟩ := draw_loop m (b.1, b.2.1 + 1, ()) [] ⟨hr.1, hr.2.1, by have := hr.2.2.1; show 0 ≤ b.2.1 + 1; omega, by have := hr.2.2.2; show b.2.1 + 1 ≤ _; omega⟩ (by simp; omega) (by simp)
  rw [h1]
  exact ⟨xs, rfl, h2, h3⟩

theorem FnImageSum_law (code : List Int) (h : WfD (.cons (.sl (.int .u8)) .nil) (code, ())) : laws_FnImageSum code = some true := by
  have hc : ∀ x ∈ code, 0 ≤ x ∧ x ≤ 255 := fun x hx => h.1.2 x hx
  unfold laws_FnImageSum laws_FnImageSumK
  by_cases hl : ((code.length : Int) > 1048576)
  · simp [hl]
  · obtain ⟨xs, hx, hx1, hx2⟩ := DrawImageSum_ok code hc
    have hs := sumOf_range xs
    simp only [hl, decide_false, cond_false, hx, some_bind', implSum_ok xs (by omega), specSum_ok xs (by omega), bne_self_eq_false]
    have := loop_list0 (nxt := laws_FnImageSum_l0) xs (fun i (_ : Unit) => (xs, sumOf xs, (i : Int), ())) (fun _ _ _ => .inl ()) (fun _ => .inl (xs, sumOf xs, ())) ()
      (fun i v s hv => ?_) (fun s => ?_) (st := (xs, sumOf xs, 0, ())) rfl
    · rw [this]
      have : goL (fun (_ : Nat) (_ : Int) (_ : Unit) => (.inl () : Unit ⊕ ((List Int × Int × Unit) ⊕ (Bool × Unit)))) (fun _ => .inl (xs, sumOf xs, ())) xs 0 () = .inl (xs, sumOf xs, ()) := by
        have : ∀ (r : List Int) (i : Nat), goL (fun (_ : Nat) (_ : Int) (_ : Unit) => (.inl () : Unit ⊕ ((List Int × Int × Unit) ⊕ (Bool × Unit)))) (fun _ => .inl (xs, sumOf xs, ())) r i () = .inl (xs, sumOf xs, ()) := by
          intro r
          induction r with
          | nil => intro i; rfl
          | cons x r ih => intro i; exact ih (i + 1)
        exact this xs 0
      rw [this]
      have g1 : decide (sumOf xs ≥ 0) = true := decide_eq_true hs.1
      have g2 : decide (sumOf xs ≤ 65520) = true := decide_eq_true (by omega)
      simp only [some_bind', endK, g1, g2, cond_true]
      rw [chk_pos (by simp only [bigRow]; omega), chk_pos (by simp only [bigRow]; omega), implSum_ok _ (by simp; omega), wrap64 (n := 37 * sumOf xs) (by omega) (by omega), wrap64 (n := 37 * sumOf xs + 9) (by omega) (by omega), Int.tmod_eq_emod_of_nonneg (by omega)]
      have e : sumOf (xs ++ [9]) = (37 * sumOf xs + 9) % 65521 := by
        unfold sumOf
        rw [List.foldl_append]
        rfl
      rw [e]
      simp only [some_bind', beq_self_eq_true, cond_true]
      rfl
    · have hi := get_lt hv
      have hr := hx2 v (List.mem_of_getElem? hv)
      simp only [laws_FnImageSum_l0, laws_FnImageSum_l0K, dec_lt hv, cond_true, nnK_nat, getK_some hv, wrapS (show i < 4611686018427387904 by omega), goTo_l]
      rw [chk_pos (by simp only [bigRow]; omega), chk_pos hi, chk_pos hi, implSum_ok _ (by simp; omega)]
      have hne := sum_flip hv (flip_ok hr.1 hr.2)
      have : (sumOf (xs.set i (IntKind.wrap .i64 (((BitVec.ofInt 64 v ^^^ BitVec.ofInt 64 (1 : Int)).toNat : Int)))) == sumOf xs) = false := by
        rw [beqI]; exact decide_eq_false hne
      simp only [some_bind', this, cond_false]
    · simp only [laws_FnImageSum_l0, laws_FnImageSum_l0K, dec_nlt, cond_false]

end Go.Ev
