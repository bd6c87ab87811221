/-
  Names: what is drawn.
-/
import Derived.Test.YtmflmnknhlippaaLaw1
namespace Go.Ev
set_option linter.unusedVariables false
set_option linter.unusedSimpArgs false
set_option maxRecDepth 100000
set_option synthInstance.maxSize 2000
set_option synthInstance.maxHeartbeats 400000

/-! ### draws -/

/-- a reader: bytes, no more than 2000, and how often it was asked -/
def rdOk (b : Dl20Rd) (m : Int) : Prop := b.1.length ≤ 2000 ∧ (∀ x ∈ b.1, 0 ≤ x ∧ x ≤ 255) ∧ 0 ≤ b.2.1 ∧ b.2.1 ≤ m

theorem wrapU {x : Int} (h : 0 ≤ x) (h1 : x < 18446744073709551616) : IntKind.wrap .u64 x = x := by
  simp [IntKind.wrap, IntKind.bits, IntKind.signed]
  omega

theorem draw_ok (n : Int) (b : Dl20Rd) {m : Int} (h : rdOk b m) (hm : m ≤ 1000000000) (hn : 1 ≤ n) : ∃ r, spec_l20Rd_pick n b = some (r, (b.1, b.2.1 + 1, ())) ∧ 0 ≤ r ∧ r < n := by
  obtain ⟨h1, h2, h3, h4⟩ := h
  unfold spec_l20Rd_pick spec_l20Rd_pickK
  have e0 : decide (n < 1) = false := decide_eq_false (by omega)
  simp only [e0, Bool.not_false, cond_true]
  rw [wrap64 (n := b.2.1 + 1) (by omega) (by omega), wrap64 (n := b.2.1 + 1 - 1) (by omega) (by omega), show b.2.1 + 1 - 1 = b.2.1 from by omega]
  by_cases hz : (b.1.length : Int) = 0
  · simp [hz]; omega
  · have e1 : ((b.1.length : Int) == 0) = false := by simpa using hz
    simp only [e1, cond_false]
    by_cases hlt : b.2.1 < (b.1.length : Int)
    · have hl : b.2.1.toNat < b.1.length := by omega
      have hv := h2 b.1[b.2.1.toNat] (List.getElem_mem hl)
      simp only [hlt, decide_true, cond_true, nnK_pos h3]
      rw [getK_lt hl, chk_pos (by omega), wrap64 (n := b.1[b.2.1.toNat]) (by omega) (by omega), Int.tmod_eq_emod_of_nonneg (by omega)]
      exact ⟨_, rfl, Int.emod_nonneg _ (by omega), Int.emod_lt_of_pos _ (by omega)⟩
    · simp only [hlt, decide_false, cond_false]
      have hp : (0 : Int) < (b.1.length : Int) := by omega
      rw [chk_pos hz, Int.tmod_eq_emod_of_nonneg (a := b.2.1) h3]
      have g1 := Int.emod_nonneg b.2.1 hz
      have g2 := Int.emod_lt_of_pos b.2.1 hp
      rw [nnK_pos g1, getK_lt (show (b.2.1 % (b.1.length : Int)).toNat < b.1.length by omega), chk_pos hz, wrap64 (n := b.2.1 * 7) (by omega) (by omega), wrap64 (n := b.2.1 * 7 + 3) (by omega) (by omega), Int.tmod_eq_emod_of_nonneg (a := b.2.1 * 7 + 3) (by omega)]
      have g3 := Int.emod_nonneg (b.2.1 * 7 + 3) hz
      have g4 := Int.emod_lt_of_pos (b.2.1 * 7 + 3) hp
      rw [nnK_pos g3, getK_lt (show ((b.2.1 * 7 + 3) % (b.1.length : Int)).toNat < b.1.length by omega), chk_pos hz, chk_pos (show n ≠ 0 by omega)]
      have hv := h2 _ (List.getElem_mem (show (b.2.1 % (b.1.length : Int)).toNat < b.1.length by omega))
      have hw := h2 _ (List.getElem_mem (show ((b.2.1 * 7 + 3) % (b.1.length : Int)).toNat < b.1.length by omega))
      generalize b.1[(b.2.1 % (b.1.length : Int)).toNat]'(by omega) = v at hv
      generalize b.1[((b.2.1 * 7 + 3) % (b.1.length : Int)).toNat]'(by omega) = w at hw
      have hq1 : 0 ≤ Int.tdiv b.2.1 (b.1.length : Int) := by rw [Int.tdiv_eq_ediv_of_nonneg h3]; exact Int.ediv_nonneg h3 (by omega)
      have hq2 : Int.tdiv b.2.1 (b.1.length : Int) ≤ b.2.1 := by rw [Int.tdiv_eq_ediv_of_nonneg h3]; exact Int.ediv_le_self _ h3
      generalize Int.tdiv b.2.1 (b.1.length : Int) = q at hq1 hq2
      rw [wrap64 (n := v) (by omega) (by omega), wrap64 (n := v * 131) (by omega) (by omega), wrap64 (n := w) (by omega) (by omega), wrap64 (n := w * 1117) (by omega) (by omega), wrap64 (n := v * 131 + w * 1117) (by omega) (by omega), wrap64 (n := b.2.1 * 29) (by omega) (by omega),
        wrap64 (n := v * 131 + w * 1117 + b.2.1 * 29) (by omega) (by omega), wrap64 (n := q) (by omega) (by omega), wrap64 (n := q * 53) (by omega) (by omega), wrap64 (n := v * 131 + w * 1117 + b.2.1 * 29 + q * 53) (by omega) (by omega)]
      generalize hX : v * 131 + w * 1117 + b.2.1 * 29 + q * 53 = X
      have hX0 : 0 ≤ X ∧ X < 1000000000000 := by omega
      have hY : Int.tdiv X 64 = X / 64 := Int.tdiv_eq_ediv_of_nonneg hX0.1
      rw [hY, wrap64 (n := X / 64) (by omega) (by omega)]
      have hxor : (BitVec.ofInt 64 X ^^^ BitVec.ofInt 64 (X / 64)).toNat < 1099511627776 := by
        rw [BitVec.toNat_xor]
        have small : ∀ z : Int, 0 ≤ z → z < 1000000000000 → (BitVec.ofInt 64 z).toNat < 2 ^ 40 := fun z h0 h1 => by
          rw [BitVec.toNat_ofInt, Int.emod_eq_of_lt h0 (by show z < ((2 ^ 64 : Nat) : Int); omega)]
          omega
        exact Nat.xor_lt_two_pow (n := 40) (small X hX0.1 hX0.2) (small (X / 64) (by omega) (by omega))
      rw [wrap64 (by omega) (by omega), Int.tmod_eq_emod_of_nonneg (by omega)]
      exact ⟨_, rfl, Int.emod_nonneg _ (by omega), Int.emod_lt_of_pos _ (by omega)⟩

theorem rdOk.mono {b : Dl20Rd} {m m' : Int} (h : rdOk b m) (hm : m ≤ m') : rdOk b m' := ⟨h.1, h.2.1, h.2.2.1, Int.le_trans h.2.2.2 hm⟩

theorem pickE (n : Int) (b : Dl20Rd) {m : Int} (h : rdOk b m) (hm : m ≤ 1000000) (hn : 1 ≤ n) : ∃ r b', spec_l20Rd_pick n b = some (r, b') ∧ 0 ≤ r ∧ r < n ∧ rdOk b' (m + 1) := by
  obtain ⟨r, h1, h2, h3⟩ := draw_ok n b h (by omega) hn
  exact ⟨r, _, h1, h2, h3, h.1, h.2.1, by have := h.2.2.1; show 0 ≤ b.2.1 + 1; omega, by have := h.2.2.2; show b.2.1 + 1 ≤ m + 1; omega⟩

theorem oddE (n : Int) (b : Dl20Rd) {m : Int} (h : rdOk b m) (hm : m ≤ 1000000) (hn : 0 ≤ n) : ∃ c b', spec_l20Rd_odd n b = some (c, b') ∧ rdOk b' (m + 1) := by
  by_cases h0 : n = 0
  · subst h0
    exact ⟨false, b, rfl, h.mono (by omega)⟩
  · obtain ⟨r, b', h1, h2, h3, h4⟩ := pickE n b h hm (by omega)
    have hd : decide (n > 0) = true := decide_eq_true (by omega)
    refine ⟨r == IntKind.wrap .i64 (n - 1), b', ?_, h4⟩
    simp only [spec_l20Rd_odd, spec_l20Rd_oddK, hd, cond_true, h1, some_bind']

theorem openE (code : List Int) (hc : ∀ x ∈ code, 0 ≤ x ∧ x ≤ 255) : ∃ b, spec_l20Open code = some b ∧ rdOk b 0 := by
  unfold spec_l20Open spec_l20OpenK
  by_cases h : ((code.length : Int) > 2000)
  · simp only [h, decide_true, cond_true]
    rw [chk_pos (by omega)]
    exact ⟨_, rfl, by simp; omega, fun x hx => hc x (List.mem_of_mem_take hx), by simp, by simp⟩
  · simp only [h, decide_false, cond_false]
    exact ⟨_, rfl, by show code.length ≤ 2000; omega, hc, by simp, by simp⟩

/-- a number of a row of so many: what is there -/
theorem getE {γ α : Type} (xs : List α) {r : Int} (h0 : 0 ≤ r) (h1 : r < (xs.length : Int)) (K : α → Option γ) : ∃ x, x ∈ xs ∧ (nnK r fun i => getK xs i K) = K x := by
  rw [nnK_pos h0, getK_lt (show r.toNat < xs.length by omega)]
  exact ⟨_, List.getElem_mem _, rfl⟩


/-! ### names that are put -/

theorem put_loop (xs : List DName) (x : DName) (h : xs.length ≤ 1048577) : ∀ (f i : Nat), i + f = xs.length → i ≤ ixN xs x.1 →
    loopF spec_PutName_l0 (xs, x, (i : Int), ()) = some (xs, x, (ixN xs x.1 : Int), ()) := by
  have hle : ixN xs x.1 ≤ xs.length := List.findIdx_le_length
  intro f
  induction f with
  | zero =>
    intro i hi h1
    obtain rfl : i = xs.length := by omega
    have he : ixN xs x.1 = xs.length := by omega
    rw [he]
    apply loopF_inr
    simp only [spec_PutName_l0, spec_PutName_l0K, dec_nlt, cond_false]
  | succ f ih =>
    intro i hi h1
    have hlt : i < xs.length := by omega
    have hx : xs[i]? = some xs[i] := List.getElem?_eq_getElem hlt
    have em : (x.1, x.2.1, x.2.2.1, ()) = x := rfl
    cases hc : ltB xs[i].1 x.1 with
    | true =>
      have hne : i ≠ ixN xs x.1 := fun e => by
        have hlt' : ixN xs x.1 < xs.length := by omega
        have := List.findIdx_getElem (p := fun y : DName => !ltB y.1 x.1) (w := hlt')
        rw [Bool.not_eq_true'] at this
        have h2 : ltB xs[ixN xs x.1].1 x.1 = false := this
        simp only [← e, hc] at h2
        cases h2
      have hs : spec_PutName_l0 (xs, x, (i : Int), ()) = some (.inl (xs, x, ((i + 1 : Nat) : Int), ())) := by
        simp only [spec_PutName_l0, spec_PutName_l0K, dec_lt hx, cond_true, nnK_nat, getK_some hx, bytesLess_lt, wrapS (show i < 4611686018427387904 by omega)]
        rw [show decide (xs[i].1.toList < x.1.toList) = true from hc]
        rfl
      rw [loopF_inl hs]
      exact ih (i + 1) (by omega) (by omega)
    | false =>
      have he : i = ixN xs x.1 := by
        rcases Nat.lt_or_ge i (ixN xs x.1) with q | q
        · rw [ixN_below q hlt] at hc; cases hc
        · omega
      rw [← he]
      apply loopF_inr
      simp only [spec_PutName_l0, spec_PutName_l0K, dec_lt hx, cond_true, nnK_nat, getK_some hx, bytesLess_lt]
      rw [show decide (xs[i].1.toList < x.1.toList) = false from hc]
      rfl

def mayN (x : DName) : Bool := textV x.1 && rgt x.2.1 0 15

def insN (xs : List DName) (x : DName) : List DName := xs.take (ixN xs x.1) ++ [x] ++ xs.drop (ixN xs x.1)

def putN (xs : List DName) (x : DName) : Bool × List DName :=
  bif namesV xs && mayN x then
    (bif atN xs x.1 then (if (xs.getD (ixN xs x.1) nN).2.1 = x.2.1 then (true, xs.set (ixN xs x.1) x) else (false, xs))
    else (if xs.length = 20 then (false, xs) else (true, insN xs x)))
  else (false, [])

theorem atN_lt {xs : List DName} {t : ByteArray} (h : atN xs t = true) : ixN xs t < xs.length := by
  unfold atN at h
  split at h
  · rename_i x hx; exact get_lt hx
  · cases h

theorem spec_PutName_ok (xs : List DName) (x : DName) (h : xs.length ≤ 1048577) (hs : small xs) (hx : x.1.size ≤ 9223372036854775807) : spec_PutName xs x = some (putN xs x) := by
  unfold spec_PutName spec_PutNameK putN mayN
  rw [spec_NamesValid_ok xs h hs]
  have em : (x.1, x.2.1, x.2.2.1, ()) = x := rfl
  cases hv : namesV xs with
  | false => rfl
  | true =>
    simp only [some_bind', Bool.not_true, Bool.not_false, cond_true, l22Text_ok x.1 hx]
    cases ht : textV x.1 with
    | false => rfl
    | true =>
      simp only [Bool.not_true, Bool.not_false, cond_true, l1In_ok, some_bind', Bool.true_and]
      rw [show (decide (0 ≤ x.2.1) && decide (x.2.1 ≤ 15)) = rgt x.2.1 0 15 from rfl]
      cases ho : rgt x.2.1 0 15 with
      | false => rfl
      | true =>
        have hle : ixN xs x.1 ≤ xs.length := List.findIdx_le_length
        have hl0 : loopF spec_PutName_l0 (xs, (x.1, x.2.1, x.2.2.1, ()), 0, ()) = some (xs, x, (ixN xs x.1 : Int), ()) := put_loop xs x h xs.length 0 (by omega) (by omega)
        simp only [Bool.not_true, cond_false, cond_true, hl0, some_bind', chk_pos (show xs.length ≤ bigRow by simp only [bigRow]; omega)]
        have hb1 : (xs.take (ixN xs x.1)).length ≤ bigRow := by simp only [bigRow, List.length_take]; omega
        have hb2 : (xs.take (ixN xs x.1)).length + 1 ≤ bigRow := by simp only [bigRow, List.length_take]; omega
        have hb3 : ((xs.take (ixN xs x.1)) ++ [x]).length + (xs.drop (ixN xs x.1)).length ≤ bigRow := by simp only [bigRow, List.length_append, List.length_take, List.length_drop, List.length_singleton]; omega
        by_cases hlt : ixN xs x.1 < xs.length
        · have hd : decide ((ixN xs x.1 : Int) < (xs.length : Int)) = true := by simp; omega
          have hg : xs[ixN xs x.1]? = some xs[ixN xs x.1] := List.getElem?_eq_getElem hlt
          have hgd : xs.getD (ixN xs x.1) nN = xs[ixN xs x.1] := by simp [List.getD, hg]
          have ha : atN xs x.1 = (xs[ixN xs x.1].1.toList == x.1.toList) := by unfold atN; rw [hg]
          simp only [hd, cond_true, nnK_nat, getK_some hg, chk_pos hlt, chk_pos hle, chk_pos hb1, chk_pos hb2, chk_pos hb3, ← ha]
          cases hat : atN xs x.1 with
          | true =>
            simp only [cond_true, hgd, bneI]
            by_cases e : xs[ixN xs x.1].2.1 = x.2.1
            · simp [e]
            · simp [e]
          | false =>
            simp only [cond_false]
            by_cases e : xs.length = 20
            · have : ((xs.length : Int) == 20) = true := by simp [e]
              simp only [this, cond_true]
              rw [if_pos e]
            · have : ((xs.length : Int) == 20) = false := by simp; omega
              simp only [this, cond_false, e, if_false, insN]
        · have hd : decide ((ixN xs x.1 : Int) < (xs.length : Int)) = false := by simp; omega
          have hg : xs[ixN xs x.1]? = none := List.getElem?_eq_none (by omega)
          have ha : atN xs x.1 = false := by unfold atN; rw [hg]
          simp only [hd, cond_false, nnK_nat, chk_pos hle, chk_pos hb1, chk_pos hb2, chk_pos hb3, ha]
          by_cases e : xs.length = 20
          · have : ((xs.length : Int) == 20) = true := by simp [e]
            simp only [this, cond_true]
            rw [if_pos e]
          · have : ((xs.length : Int) == 20) = false := by simp; omega
            simp only [this, cond_false, e, if_false, insN]

/-! ### what is drawn -/

def tiny (xs : List DName) : Prop := ∀ x ∈ xs, x.1.size ≤ 13 ∧ x.2.1 ≠ 15

theorem tiny_small {xs : List DName} (h : tiny xs) : small xs := fun x hx => by have := (h x hx).1; omega

theorem putN_tiny {xs : List DName} {x : DName} (h : tiny xs) (hx : x.1.size ≤ 13 ∧ x.2.1 ≠ 15) : tiny (putN xs x).2 ∧ (putN xs x).2.length ≤ xs.length + 1 := by
  unfold putN
  cases namesV xs && mayN x with
  | false => exact ⟨fun y hy => by simp at hy, by simp⟩
  | true =>
    simp only [cond_true]
    cases atN xs x.1 with
    | true =>
      simp only [cond_true]
      split
      · refine ⟨fun y hy => ?_, by simp⟩
        rcases List.mem_or_eq_of_mem_set hy with hy | hy
        · exact h y hy
        · rw [hy]; exact hx
      · exact ⟨h, by simp⟩
    | false =>
      simp only [cond_false]
      split
      · exact ⟨h, by simp⟩
      · refine ⟨fun y hy => ?_, by simp [insN]; omega⟩
        simp only [insN, List.mem_append, List.mem_singleton] at hy
        rcases hy with (hy | hy) | hy
        · exact h y (List.mem_of_mem_take hy)
        · rw [hy]; exact hx
        · exact h y (List.mem_of_mem_drop hy)

theorem l20Text_ok (n : Int) (b : Dl20Rd) {m : Int} (h : rdOk b m) (hm : m ≤ 100000) (hn : 0 ≤ n) : ∃ t b', spec_l20Text n b = some (t, b') ∧ t.size ≤ 13 ∧ rdOk b' (m + 2) := by
  unfold spec_l20Text spec_l20TextK
  obtain ⟨c, b1, d1, hb1⟩ := oddE n b h (by omega) hn
  simp only [d1, some_bind']
  cases c with
  | true =>
    obtain ⟨r, b2, d2, h0, h1, hb2⟩ := pickE 4 b1 hb1 (by omega) (by omega)
    simp only [cond_true, d2, some_bind']
    have hlt : r.toNat < [(ByteArray.mk #[]), (ByteArray.mk #[65, 98]), (ByteArray.mk #[97, 32, 98]), (ByteArray.mk #[97, 98, 99, 100, 101, 102, 103, 104, 105, 106, 107, 108, 109])].length := by simp; omega
    rw [nnK_pos h0, getK_lt hlt]
    refine ⟨_, b2, rfl, ?_, hb2.mono (by omega)⟩
    have hm := List.getElem_mem hlt
    generalize ([(ByteArray.mk #[]), (ByteArray.mk #[65, 98]), (ByteArray.mk #[97, 32, 98]), (ByteArray.mk #[97, 98, 99, 100, 101, 102, 103, 104, 105, 106, 107, 108, 109])] : List ByteArray)[r.toNat]'hlt = t at hm
    simp only [List.mem_cons, List.not_mem_nil, or_false] at hm
    rcases hm with rfl | rfl | rfl | rfl <;> decide
  | false =>
    obtain ⟨r, b2, d2, h0, h1, hb2⟩ := pickE 7 b1 hb1 (by omega) (by omega)
    simp only [cond_false, d2, some_bind']
    have hlt : r.toNat < [(ByteArray.mk #[97]), (ByteArray.mk #[98]), (ByteArray.mk #[97, 98]), (ByteArray.mk #[100, 114, 105, 118, 101, 114]), (ByteArray.mk #[110, 97, 109, 101, 115]), (ByteArray.mk #[114, 111, 111, 116]), (ByteArray.mk #[97, 98, 99, 100, 101, 102, 103, 104, 105, 106, 107, 108])].length := by simp; omega
    rw [nnK_pos h0, getK_lt hlt]
    refine ⟨_, b2, rfl, ?_, hb2.mono (by omega)⟩
    have hm := List.getElem_mem hlt
    generalize ([(ByteArray.mk #[97]), (ByteArray.mk #[98]), (ByteArray.mk #[97, 98]), (ByteArray.mk #[100, 114, 105, 118, 101, 114]), (ByteArray.mk #[110, 97, 109, 101, 115]), (ByteArray.mk #[114, 111, 111, 116]), (ByteArray.mk #[97, 98, 99, 100, 101, 102, 103, 104, 105, 106, 107, 108])] : List ByteArray)[r.toNat]'hlt = t at hm
    simp only [List.mem_cons, List.not_mem_nil, or_false] at hm
    rcases hm with rfl | rfl | rfl | rfl | rfl | rfl | rfl <;> decide

theorem names_loop (n : Int) : ∀ (k : Nat) (b : Dl20Rd) (s : List DName), s.length + k ≤ 10 → tiny s → rdOk b (1000 - 5 * (k : Int)) →
    ∃ b' s', loopF spec_l20Names_l0 (n, (k : Int), b, s, ()) = some (n, b', s', ()) ∧ rdOk b' 1000 ∧ tiny s' ∧ s'.length ≤ 10 := by
  intro k
  induction k with
  | zero =>
    intro b s hl hs hb
    exact ⟨b, s, loopF_inr rfl, hb.mono (by omega), hs, by omega⟩
  | succ k ih =>
    intro b s hl hs hb
    obtain ⟨t, b1, d1, ht, hb1⟩ := l20Text_ok 0 b hb (by omega) (by omega)
    obtain ⟨r2, b2, d2, h20, h21, hb2⟩ := pickE 3 b1 hb1 (by omega) (by omega)
    obtain ⟨r3, b3, d3, h30, h31, hb3⟩ := pickE 100 b2 hb2 (by omega) (by omega)
    have hp := putN_tiny (x := (t, r2, r3, ())) hs ⟨ht, show r2 ≠ 15 by omega⟩
    have hd : decide (((k + 1 : Nat) : Int) > 0) = true := by simp
    have hst : spec_l20Names_l0 (n, ((k + 1 : Nat) : Int), b, s, ()) = some (.inl (n, (k : Int), b3, (putN s (t, r2, r3, ())).2, ())) := by
      simp only [spec_l20Names_l0, spec_l20Names_l0K, hd, cond_true, d1, some_bind', d2, d3, spec_PutName_ok s (t, r2, r3, ()) (by omega) (tiny_small hs) (show t.size ≤ _ by omega)]
      rw [wrap64 (n := ((k + 1 : Nat) : Int) - 1) (by omega) (by omega), show ((k + 1 : Nat) : Int) - 1 = (k : Int) from by omega]
    rw [loopF_inl hst]
    exact ih b3 _ (by omega) hp.1 (hb3.mono (by omega))

theorem l20Names_ok (n : Int) (b : Dl20Rd) (hn : 0 ≤ n) (hb : rdOk b 10) : ∃ b' s, spec_l20Names n b = some (b', s) ∧ rdOk b' 2000 ∧ tiny s ∧ s.length ≤ 12 := by
  unfold spec_l20Names spec_l20NamesK
  obtain ⟨r, b1, d, h0, h1, hb1⟩ := pickE 7 b hb (by omega) (by omega)
  obtain ⟨k, rfl⟩ : ∃ k : Nat, r = (k : Int) := ⟨r.toNat, by omega⟩
  obtain ⟨b2, s, e2, hb2, hs, hl⟩ := names_loop n k b1 [] (by simp; omega) (fun x hx => by simp at hx) (hb1.mono (by omega))
  obtain ⟨c, b3, d3, hb3⟩ := oddE n b2 hb2 (by omega) hn
  simp only [d, some_bind', e2, d3]
  have app : ∀ (ys : List DName), tiny ys → ys.length ≤ 2 → tiny (s ++ ys) ∧ (s ++ ys).length ≤ 12 := fun ys hy hyl => by
    refine ⟨fun x hx => ?_, by simp; omega⟩
    rcases List.mem_append.1 hx with hx | hx
    · exact hs x hx
    · exact hy x hx
  cases c with
  | false => exact ⟨_, _, rfl, hb3.mono (by omega), hs, by omega⟩
  | true =>
    obtain ⟨r4, b4, d4, h40, h41, hb4⟩ := pickE 3 b3 hb3 (by omega) (by omega)
    have c1 : s.length + 1 ≤ bigRow := by simp only [bigRow]; omega
    have c2 : s.length + 2 ≤ bigRow := by simp only [bigRow]; omega
    simp only [cond_true, d4, some_bind', chk_pos c1, chk_pos c2]
    cases (r4 == (0 : Int)) with
    | true =>
      have := app [((ByteArray.mk #[122, 122]), (16 : Int), (0 : Int), ())] (fun x hx => by rw [List.mem_singleton] at hx; subst hx; show (ByteArray.mk #[122, 122]).size ≤ 13 ∧ (16 : Int) ≠ 15; decide) (by simp)
      exact ⟨_, _, rfl, hb4.mono (by omega), this.1, this.2⟩
    | false =>
      simp only [cond_false]
      cases (r4 == (1 : Int)) with
      | true =>
        have := app [((ByteArray.mk #[97]), (0 : Int), (0 : Int), ()), ((ByteArray.mk #[97]), (0 : Int), (0 : Int), ())] (fun x hx => by simp only [List.mem_cons, List.not_mem_nil, or_false, or_self] at hx; subst hx; show (ByteArray.mk #[97]).size ≤ 13 ∧ (0 : Int) ≠ 15; decide) (by simp)
        exact ⟨_, _, rfl, hb4.mono (by omega), this.1, this.2⟩
      | false =>
        have := app [((ByteArray.mk #[]), (0 : Int), (0 : Int), ())] (fun x hx => by rw [List.mem_singleton] at hx; subst hx; show (ByteArray.mk #[]).size ≤ 13 ∧ (0 : Int) ≠ 15; decide) (by simp)
        exact ⟨_, _, rfl, hb4.mono (by omega), this.1, this.2⟩

theorem DrawNamesValid_ok (code : List Int) (hc : ∀ x ∈ code, 0 ≤ x ∧ x ≤ 255) : ∃ s, spec_DrawNamesValid code = some s ∧ tiny s ∧ s.length ≤ 12 := by
  unfold spec_DrawNamesValid spec_DrawNamesValidK
  obtain ⟨b, e, hb⟩ := openE code hc
  obtain ⟨b1, s, e1, hb1, hs, hl⟩ := l20Names_ok 2 b (by omega) (hb.mono (by omega))
  simp only [e, e1, some_bind']
  exact ⟨s, rfl, hs, hl⟩

theorem DrawFindName_ok (code : List Int) (hc : ∀ x ∈ code, 0 ≤ x ∧ x ≤ 255) : ∃ t s, spec_DrawFindName code = some (t, s) ∧ tiny s ∧ s.length ≤ 12 := by
  unfold spec_DrawFindName spec_DrawFindNameK
  obtain ⟨b, e, hb⟩ := openE code hc
  obtain ⟨b1, s, e1, hb1, hs, hl⟩ := l20Names_ok 12 b (by omega) (hb.mono (by omega))
  obtain ⟨t, b2, d2, ht, hb2⟩ := l20Text_ok 9 b1 hb1 (by omega) (by omega)
  simp only [e, e1, some_bind', d2]
  exact ⟨t, s, rfl, hs, hl⟩

/-! ### the laws -/

theorem alive_ok : laws_alive = some true := rfl

theorem names_iff {xs : List DName} : namesV xs = true ↔ (∀ i x, xs[i]? = some x → nOk xs i x = true) ∧ xs.length ≤ 20 := by
  unfold namesV
  rw [Bool.and_eq_true, all_zip0 (p := fun i x => nOk xs i x), decide_eq_true_eq]

theorem names_take {xs : List DName} (h : namesV xs = true) (m : Nat) : namesV (xs.take m) = true := by
  obtain ⟨h1, h2⟩ := names_iff.1 h
  refine names_iff.2 ⟨fun i x hx => ?_, by simp; omega⟩
  have hx' : xs[i]? = some x ∧ i < m := by
    rw [List.getElem?_take] at hx
    split at hx
    · rename_i q; exact ⟨hx, q⟩
    · cases hx
  have := h1 i x hx'.1
  unfold nOk at this ⊢
  rw [show (xs.take m).getD (i - 1) nN = xs.getD (i - 1) nN by simp [List.getD, List.getElem?_take, show i - 1 < m by omega]]
  exact this

theorem names_twice (xs : List DName) (x : DName) : namesV (xs ++ [x, x]) = false := by
  cases hv : namesV (xs ++ [x, x]) with
  | false => rfl
  | true =>
    have := (names_iff.1 hv).1 (xs.length + 1) x (by simp)
    unfold nOk at this
    simp only [Bool.and_eq_true, Bool.or_eq_true, decide_eq_true_eq, Nat.add_sub_cancel] at this
    have h2 : (xs ++ [x, x]).getD xs.length nN = x := by simp [List.getD]
    rw [h2, ltB_irr] at this
    rcases this.2.2 with q | q
    · omega
    · cases q

theorem FnNamesValid_law (code : List Int) (h : WfD (.cons (.sl (.int .u8)) .nil) (code, ())) : laws_FnNamesValid code = some true := by
  have hc : ∀ x ∈ code, 0 ≤ x ∧ x ≤ 255 := fun x hx => h.1.2 x hx
  unfold laws_FnNamesValid laws_FnNamesValidK
  by_cases hl : ((code.length : Int) > 1048576)
  · simp [hl]
  · obtain ⟨s, hs, ht, hl7⟩ := DrawNamesValid_ok code hc
    simp only [hl, decide_false, cond_false, hs, some_bind', impl_NamesValid_ok s (by omega) (tiny_small ht), spec_NamesValid_ok s (by omega) (tiny_small ht), beq_self_eq_true, Bool.not_true]
    have g : Int.tdiv (s.length : Int) 2 = (s.length : Int) / 2 := Int.tdiv_eq_ediv_of_nonneg (by omega)
    have hbig : s.length + 2 ≤ bigRow := by simp only [bigRow]; omega
    have hbig' : s.length ≤ bigRow := by omega
    have ht2 : small (s ++ [((ByteArray.mk #[122, 122]), (0 : Int), (0 : Int), ()), ((ByteArray.mk #[122, 122]), (0 : Int), (0 : Int), ())]) := fun x hx => by
      rcases List.mem_append.1 hx with hx | hx
      · exact tiny_small ht x hx
      · simp only [List.mem_cons, List.not_mem_nil, or_false, or_self] at hx
        subst hx
        show (ByteArray.mk #[122, 122]).size ≤ _
        decide
    have hv2 := impl_NamesValid_ok (s ++ [((ByteArray.mk #[122, 122]), (0 : Int), (0 : Int), ()), ((ByteArray.mk #[122, 122]), (0 : Int), (0 : Int), ())]) (by simp; omega) ht2
    rw [names_twice] at hv2
    cases hv : namesV s with
    | false =>
      simp only [Bool.not_false, Bool.not_true, cond_false, chk_pos hbig, chk_pos hbig', hv2, some_bind', cond_true, alive_ok]
    | true =>
      simp only [Bool.not_false, Bool.not_true, cond_true]
      rw [g, wrap64 (by omega) (by omega), nnK_pos (by omega), chk_pos (by omega), impl_NamesValid_ok _ (by simp; omega) (fun x hx => tiny_small ht x (List.mem_of_mem_take hx)), names_take hv]
      simp only [some_bind', cond_true, chk_pos hbig, chk_pos hbig', hv2, Bool.not_false, alive_ok]

def cntN (xs : List DName) (t : ByteArray) (i : Nat) : Int := if atN xs t = true ∧ ixN xs t < i then 1 else 0

theorem find_loop (xs : List DName) (t : ByteArray) (a : Int) (ok : Bool) (hv : namesV xs = true) (h : xs.length ≤ 1048577) (hs : small xs) (ha : atN xs t = true → a = (xs.getD (ixN xs t) nN).2.2.1) :
    ∀ (r : List DName) (i : Nat), xs.drop i = r → i ≤ xs.length → loopF laws_FnFindName_l0 (xs, t, a, ok, cntN xs t i, (i : Int), ()) = some (.inl (a, ok, cntN xs t xs.length, ())) := by
  intro r
  induction r with
  | nil =>
    intro i hd hi
    have : i = xs.length := by
      have := congrArg List.length hd
      simp at this; omega
    subst this
    apply loopF_inr
    simp only [laws_FnFindName_l0, laws_FnFindName_l0K, dec_nlt, cond_false]
  | cons x r ih =>
    intro i hd hi
    obtain ⟨hx, hr⟩ := drop_get hd
    have hlt := get_lt hx
    have hst : laws_FnFindName_l0 (xs, t, a, ok, cntN xs t i, (i : Int), ()) = some (.inl (xs, t, a, ok, cntN xs t (i + 1), ((i + 1 : Nat) : Int), ())) := by
      simp only [laws_FnFindName_l0, laws_FnFindName_l0K, dec_lt hx, cond_true, spec_NamesValid_ok xs h hs, hv, some_bind', nnK_nat, getK_some hx, wrapS (show i < 4611686018427387904 by omega)]
      cases hb : (x.1.toList == t.toList) with
      | true =>
        obtain ⟨h1, h2⟩ := (atN_iff hv hx).1 (toList_eq.1 hb)
        have hgd : xs.getD (ixN xs t) nN = x := by rw [h2]; simp [List.getD, hx]
        have e1 : (x.2.2.1 != a) = false := by rw [ha h1, hgd]; simp
        have e2 : cntN xs t i = 0 := if_neg (by omega)
        have e3 : cntN xs t (i + 1) = 1 := if_pos ⟨h1, by omega⟩
        simp only [cond_true, e1, cond_false, e2, e3]
        rfl
      | false =>
        have e2 : cntN xs t i = cntN xs t (i + 1) := by
          unfold cntN
          by_cases q : atN xs t = true ∧ ixN xs t < i
          · rw [if_pos q, if_pos ⟨q.1, by omega⟩]
          · rw [if_neg q, if_neg]
            rintro ⟨q1, q2⟩
            have : ixN xs t = i := by
              rcases Nat.lt_or_ge (ixN xs t) i with z | z
              · exact absurd ⟨q1, z⟩ q
              · omega
            have := (atN_iff hv hx).2 ⟨q1, this⟩
            rw [toList_eq.2 this] at hb
            cases hb
        simp only [cond_false, e2]
    rw [loopF_inl hst]
    exact ih (i + 1) hr (by omega)

theorem FnFindName_law (code : List Int) (h : WfD (.cons (.sl (.int .u8)) .nil) (code, ())) : laws_FnFindName code = some true := by
  have hc : ∀ x ∈ code, 0 ≤ x ∧ x ≤ 255 := fun x hx => h.1.2 x hx
  unfold laws_FnFindName laws_FnFindNameK
  by_cases hl : ((code.length : Int) > 1048576)
  · simp [hl]
  · obtain ⟨t, s, hs, ht, hl7⟩ := DrawFindName_ok code hc
    simp only [hl, decide_false, cond_false, hs, some_bind', impl_FindName_ok s t (by omega) (tiny_small ht), spec_FindName_ok s t (by omega) (tiny_small ht), bne_self_eq_false, beq_self_eq_true, Bool.not_true, Bool.not_false, cond_true]
    cases hv : namesV s with
    | false =>
      have hf : findN s t = (0, false) := by simp [findN, hv]
      have hloop : loopF laws_FnFindName_l0 (s, t, 0, false, 0, 0, ()) = some (.inl (0, false, 0, ())) := by
        apply loopF_inr
        cases s with
        | nil => exact absurd hv (by decide)
        | cons x r =>
          have hd : decide ((0 : Int) < (((x :: r).length : Nat) : Int)) = true := by simp
          simp only [laws_FnFindName_l0, laws_FnFindName_l0K, hd, cond_true, spec_NamesValid_ok _ (show (x :: r).length ≤ 1048577 by omega) (tiny_small ht), hv, some_bind', cond_false]
      rw [hf]
      simp only [hloop, some_bind', endK]
      rfl
    | true =>
      cases ha : atN s t with
      | false =>
        have hf : findN s t = (0, false) := by simp [findN, hv, ha]
        have hz : ∀ i, cntN s t i = 0 := fun i => if_neg (by rw [ha]; simp)
        have := find_loop s t 0 false hv (by omega) (tiny_small ht) (fun q => by rw [ha] at q; cases q) s 0 (by simp) (by omega)
        rw [hz, hz] at this
        have hloop : loopF laws_FnFindName_l0 (s, t, 0, false, 0, 0, ()) = some (.inl (0, false, 0, ())) := this
        rw [hf]
        simp only [hloop, some_bind', endK]
        rfl
      | true =>
        have hf : findN s t = ((s.getD (ixN s t) nN).2.2.1, true) := by simp [findN, hv, ha]
        have := find_loop s t (s.getD (ixN s t) nN).2.2.1 true hv (by omega) (tiny_small ht) (fun _ => rfl) s 0 (by simp) (by omega)
        rw [show cntN s t 0 = 0 from if_neg (by omega), show cntN s t s.length = 1 from if_pos ⟨ha, atN_lt ha⟩] at this
        have hloop : loopF laws_FnFindName_l0 (s, t, (s.getD (ixN s t) nN).2.2.1, true, 0, 0, ()) = some (.inl ((s.getD (ixN s t) nN).2.2.1, true, 1, ())) := this
        rw [hf]
        simp only [hloop, some_bind', endK]
        rfl


end Go.Ev
