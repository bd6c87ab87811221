/-
  What is drawn of tables; the laws of packing, in plain Lean.
-/
import Derived.Test.YtbkkjmhmcnfhpaaLaw2
namespace Go.Ev
set_option linter.unusedVariables false
set_option linter.unusedSimpArgs false
set_option maxRecDepth 100000
set_option synthInstance.maxSize 2000
set_option synthInstance.maxHeartbeats 400000

/-! ### draws -/

/-- a reader: bytes, no more than 2000, and how often it was asked -/
def rdOk (b : Dl20Rd) (m : Int) : Prop := b.1.length ≤ 2000 ∧ (∀ x ∈ b.1, 0 ≤ x ∧ x ≤ 255) ∧ 0 ≤ b.2.1 ∧ b.2.1 ≤ m

theorem wrapU {x : Int} (h : 0 ≤ x) (h1 : x < 18446744073709551616) : IntKind.wrap .u64 x = x := by
  simp [IntKind.wrap, IntKind.bits, IntKind.signed]
  omega

theorem draw_ok (n : Int) (b : Dl20Rd) {m : Int} (h : rdOk b m) (hm : m ≤ 1000000000) (hn : 1 ≤ n) : ∃ r, spec_l20Rd_pick n b = some (r, (b.1, b.2.1 + 1, ())) ∧ 0 ≤ r ∧ r < n := by
  obtain ⟨h1, h2, h3, h4⟩ := h
  unfold spec_l20Rd_pick spec_l20Rd_pickK
  have e0 : decide (n < 1) = false := decide_eq_false (by omega)
  simp only [e0, Bool.not_false, cond_true]
  rw [wrap64 (n := b.2.1 + 1) (by omega) (by omega), wrap64 (n := b.2.1 + 1 - 1) (by omega) (by omega), show b.2.1 + 1 - 1 = b.2.1 from by omega]
  by_cases hz : (b.1.length : Int) = 0
  · simp [hz]; omega
  · have e1 : ((b.1.length : Int) == 0) = false := by simpa using hz
    simp only [e1, cond_false]
    by_cases hlt : b.2.1 < (b.1.length : Int)
    · have hl : b.2.1.toNat < b.1.length := by omega
      have hv := h2 b.1[b.2.1.toNat] (List.getElem_mem hl)
      simp only [hlt, decide_true, cond_true, nnK_pos h3]
      rw [getK_lt hl, chk_pos (by omega), wrap64 (n := b.1[b.2.1.toNat]) (by omega) (by omega), Int.tmod_eq_emod_of_nonneg (by omega)]
      exact ⟨_, rfl, Int.emod_nonneg _ (by omega), Int.emod_lt_of_pos _ (by omega)⟩
    · simp only [hlt, decide_false, cond_false]
      have hp : (0 : Int) < (b.1.length : Int) := by omega
      rw [chk_pos hz, Int.tmod_eq_emod_of_nonneg (a := b.2.1) h3]
      have g1 := Int.emod_nonneg b.2.1 hz
      have g2 := Int.emod_lt_of_pos b.2.1 hp
      rw [nnK_pos g1, getK_lt (show (b.2.1 % (b.1.length : Int)).toNat < b.1.length by omega), chk_pos hz, wrap64 (n := b.2.1 * 7) (by omega) (by omega), wrap64 (n := b.2.1 * 7 + 3) (by omega) (by omega), Int.tmod_eq_emod_of_nonneg (a := b.2.1 * 7 + 3) (by omega)]
      have g3 := Int.emod_nonneg (b.2.1 * 7 + 3) hz
      have g4 := Int.emod_lt_of_pos (b.2.1 * 7 + 3) hp
      rw [nnK_pos g3, getK_lt (show ((b.2.1 * 7 + 3) % (b.1.length : Int)).toNat < b.1.length by omega), chk_pos hz, chk_pos (show n ≠ 0 by omega)]
      have hv := h2 _ (List.getElem_mem (show (b.2.1 % (b.1.length : Int)).toNat < b.1.length by omega))
      have hw := h2 _ (List.getElem_mem (show ((b.2.1 * 7 + 3) % (b.1.length : Int)).toNat < b.1.length by omega))
      generalize b.1[(b.2.1 % (b.1.length : Int)).toNat]'(by omega) = v at hv
      generalize b.1[((b.2.1 * 7 + 3) % (b.1.length : Int)).toNat]'(by omega) = w at hw
      have hq1 : 0 ≤ Int.tdiv b.2.1 (b.1.length : Int) := by rw [Int.tdiv_eq_ediv_of_nonneg h3]; exact Int.ediv_nonneg h3 (by omega)
      have hq2 : Int.tdiv b.2.1 (b.1.length : Int) ≤ b.2.1 := by rw [Int.tdiv_eq_ediv_of_nonneg h3]; exact Int.ediv_le_self _ h3
      generalize Int.tdiv b.2.1 (b.1.length : Int) = q at hq1 hq2
      rw [wrap64 (n := v) (by omega) (by omega), wrap64 (n := v * 131) (by omega) (by omega), wrap64 (n := w) (by omega) (by omega), wrap64 (n := w * 1117) (by omega) (by omega), wrap64 (n := v * 131 + w * 1117) (by omega) (by omega), wrap64 (n := b.2.1 * 29) (by omega) (by omega),
        wrap64 (n := v * 131 + w * 1117 + b.2.1 * 29) (by omega) (by omega), wrap64 (n := q) (by omega) (by omega), wrap64 (n := q * 53) (by omega) (by omega), wrap64 (n := v * 131 + w * 1117 + b.2.1 * 29 + q * 53) (by omega) (by omega)]
      generalize hX : v * 131 + w * 1117 + b.2.1 * 29 + q * 53 = X
      have hX0 : 0 ≤ X ∧ X < 1000000000000 := by omega
      have hY : Int.tdiv X 64 = X / 64 := Int.tdiv_eq_ediv_of_nonneg hX0.1
      rw [hY, wrap64 (n := X / 64) (by omega) (by omega)]
      have hxor : (BitVec.ofInt 64 X ^^^ BitVec.ofInt 64 (X / 64)).toNat < 1099511627776 := by
        rw [BitVec.toNat_xor]
        have small : ∀ z : Int, 0 ≤ z → z < 1000000000000 → (BitVec.ofInt 64 z).toNat < 2 ^ 40 := fun z h0 h1 => by
          rw [BitVec.toNat_ofInt, Int.emod_eq_of_lt h0 (by show z < ((2 ^ 64 : Nat) : Int); omega)]
          omega
        exact Nat.xor_lt_two_pow (n := 40) (small X hX0.1 hX0.2) (small (X / 64) (by omega) (by omega))
      rw [wrap64 (by omega) (by omega), Int.tmod_eq_emod_of_nonneg (by omega)]
      exact ⟨_, rfl, Int.emod_nonneg _ (by omega), Int.emod_lt_of_pos _ (by omega)⟩

theorem rdOk.mono {b : Dl20Rd} {m m' : Int} (h : rdOk b m) (hm : m ≤ m') : rdOk b m' := ⟨h.1, h.2.1, h.2.2.1, Int.le_trans h.2.2.2 hm⟩

theorem pickE (n : Int) (b : Dl20Rd) {m : Int} (h : rdOk b m) (hm : m ≤ 1000000) (hn : 1 ≤ n) : ∃ r b', spec_l20Rd_pick n b = some (r, b') ∧ 0 ≤ r ∧ r < n ∧ rdOk b' (m + 1) := by
  obtain ⟨r, h1, h2, h3⟩ := draw_ok n b h (by omega) hn
  exact ⟨r, _, h1, h2, h3, h.1, h.2.1, by have := h.2.2.1; show 0 ≤ b.2.1 + 1; omega, by have := h.2.2.2; show b.2.1 + 1 ≤ m + 1; omega⟩

theorem oddE (n : Int) (b : Dl20Rd) {m : Int} (h : rdOk b m) (hm : m ≤ 1000000) (hn : 0 ≤ n) : ∃ c b', spec_l20Rd_odd n b = some (c, b') ∧ rdOk b' (m + 1) := by
  by_cases h0 : n = 0
  · subst h0
    exact ⟨false, b, rfl, h.mono (by omega)⟩
  · obtain ⟨r, b', h1, h2, h3, h4⟩ := pickE n b h hm (by omega)
    have hd : decide (n > 0) = true := decide_eq_true (by omega)
    refine ⟨r == IntKind.wrap .i64 (n - 1), b', ?_, h4⟩
    simp only [spec_l20Rd_odd, spec_l20Rd_oddK, hd, cond_true, h1, some_bind']

theorem openE (code : List Int) (hc : ∀ x ∈ code, 0 ≤ x ∧ x ≤ 255) : ∃ b, spec_l20Open code = some b ∧ rdOk b 0 := by
  unfold spec_l20Open spec_l20OpenK
  by_cases h : ((code.length : Int) > 2000)
  · simp only [h, decide_true, cond_true]
    rw [chk_pos (by omega)]
    exact ⟨_, rfl, by simp; omega, fun x hx => hc x (List.mem_of_mem_take hx), by simp, by simp⟩
  · simp only [h, decide_false, cond_false]
    exact ⟨_, rfl, by show code.length ≤ 2000; omega, hc, by simp, by simp⟩

/-- a number of a row of so many: what is there -/
theorem getE {γ α : Type} (xs : List α) {r : Int} (h0 : 0 ≤ r) (h1 : r < (xs.length : Int)) (K : α → Option γ) : ∃ x, x ∈ xs ∧ (nnK r fun i => getK xs i K) = K x := by
  rw [nnK_pos h0, getK_lt (show r.toNat < xs.length by omega)]
  exact ⟨_, List.getElem_mem _, rfl⟩


/-! ### capabilities that are drawn -/

theorem odd0 (b : Dl20Rd) : spec_l20Rd_odd 0 b = some (false, b) := rfl

theorem l20Rights_ok (n : Int) (b : Dl20Rd) {m : Int} (h : rdOk b m) (hm : m ≤ 100000) (hn : 0 ≤ n) : ∃ r b', spec_l20Rights n b = some (r, b') ∧ rdOk b' (m + 4) ∧ -1 ≤ r ∧ r ≤ 16 ∧ (n = 0 → 0 ≤ r ∧ r ≤ 15) := by
  unfold spec_l20Rights spec_l20RightsK
  have go : ∀ (b1 : Dl20Rd), rdOk b1 (m + 1) → ∃ r b', ((spec_l20Rd_pick (16 : Int) b1).bind fun r7 =>
      (spec_l20Rd_pick (16 : Int) r7.2).bind fun r8 =>
      (spec_l20Rd_pick (3 : Int) r8.2).bind fun r9 =>
      nnK r9.1 fun i10 =>
      getK [r7.1, (15 : Int), r8.1] i10 fun v11 =>
      some (v11, r9.2)) = some (r, b') ∧ rdOk b' (m + 4) ∧ 0 ≤ r ∧ r ≤ 15 := by
    intro b1 hb1
    obtain ⟨r2, b2, d2, h20, h21, hb2⟩ := pickE 16 b1 hb1 (by omega) (by omega)
    obtain ⟨r3, b3, d3, h30, h31, hb3⟩ := pickE 16 b2 hb2 (by omega) (by omega)
    obtain ⟨r4, b4, d4, h40, h41, hb4⟩ := pickE 3 b3 hb3 (by omega) (by omega)
    simp only [d2, d3, d4, some_bind']
    obtain ⟨x, hx, e⟩ := getE [r2, (15 : Int), r3] h40 (by simp; omega) (fun v11 => some (v11, b4))
    rw [e]
    refine ⟨x, b4, rfl, hb4.mono (by omega), ?_⟩
    simp only [List.mem_cons, List.not_mem_nil, or_false] at hx
    omega
  by_cases h0 : n = 0
  · subst h0
    simp only [odd0, some_bind', cond_false]
    obtain ⟨r, b', e, hb, h1, h2⟩ := go b (h.mono (by omega))
    exact ⟨r, b', e, hb, by omega, by omega, fun _ => ⟨h1, h2⟩⟩
  · obtain ⟨c, b1, d1, hb1⟩ := oddE n b h (by omega) hn
    simp only [d1, some_bind']
    cases c with
    | true =>
      obtain ⟨r2, b2, d2, h20, h21, hb2⟩ := pickE 2 b1 hb1 (by omega) (by omega)
      simp only [cond_true, d2, some_bind']
      obtain ⟨x, hx, e⟩ := getE [(-1 : Int), (16 : Int)] h20 (by simp; omega) (fun v => some (v, b2))
      rw [e]
      refine ⟨x, b2, rfl, hb2.mono (by omega), ?_⟩
      simp only [List.mem_cons, List.not_mem_nil, or_false] at hx
      omega
    | false =>
      simp only [cond_false]
      obtain ⟨r, b', e, hb, h1, h2⟩ := go b1 hb1
      exact ⟨r, b', e, hb, by omega, by omega, fun q => absurd q h0⟩

noncomputable def capTail (n k o r B : Int) (b : Dl20Rd) : Option (DCap × Dl20Rd) :=
  (spec_l20Rd_odd n b).bind fun r9 =>
  bif r9.1 then
    (spec_l20Rd_pick (5 : Int) r9.2).bind fun r10 =>
    bif (r10.1 == (0 : Int)) then
      (spec_l20Rd_pick (3 : Int) r10.2).bind fun r11 =>
      nnK r11.1 fun i12 =>
      getK [(-1 : Int), (8 : Int), (0 : Int)] i12 fun v13 =>
      some ((v13, o, r, B, ()), r11.2)
    else
    bif (r10.1 == (1 : Int)) then
      (spec_l20Rd_pick (2 : Int) r10.2).bind fun r14 =>
      nnK r14.1 fun i15 =>
      getK [(-1 : Int), (100 : Int)] i15 fun v16 =>
      some ((k, v16, r, B, ()), r14.2)
    else
    bif (r10.1 == (2 : Int)) then
      some ((k, o, (16 : Int), B, ()), r10.2)
    else
    bif (r10.1 == (3 : Int)) then
      (spec_l20Rd_pick (2 : Int) r10.2).bind fun r17 =>
      nnK r17.1 fun i18 =>
      getK [(-1 : Int), (1000 : Int)] i18 fun v19 =>
      some ((k, o, r, v19, ()), r17.2)
    else
    some (((6 : Int), (0 : Int), (0 : Int), (1 : Int), ()), r10.2)
  else
  some ((k, o, r, B, ()), r9.2)

theorem capTail_ok (n k o r B : Int) (b : Dl20Rd) {m : Int} (h : rdOk b m) (hm : m ≤ 100000) (hn : 0 ≤ n) : ∃ c b', capTail n k o r B b = some (c, b') ∧ rdOk b' (m + 3) ∧ (n = 0 → c = (k, o, r, B, ())) := by
  unfold capTail
  by_cases h0 : n = 0
  · subst h0
    simp only [odd0, some_bind', cond_false]
    exact ⟨_, b, rfl, h.mono (by omega), fun _ => rfl⟩
  · obtain ⟨c, b1, d1, hb1⟩ := oddE n b h (by omega) hn
    simp only [d1, some_bind']
    cases c with
    | false => exact ⟨_, b1, rfl, hb1.mono (by omega), fun q => absurd q h0⟩
    | true =>
      obtain ⟨r2, b2, d2, h20, h21, hb2⟩ := pickE 5 b1 hb1 (by omega) (by omega)
      obtain ⟨r3, b3, d3, h30, h31, hb3⟩ := pickE 3 b2 hb2 (by omega) (by omega)
      obtain ⟨r4, b4, d4, h40, h41, hb4⟩ := pickE 2 b2 hb2 (by omega) (by omega)
      simp only [cond_true, d2, d3, d4, some_bind']
      obtain ⟨x, hx, e⟩ := getE [(-1 : Int), (8 : Int), (0 : Int)] h30 (by simp; omega) (fun v13 => some (((v13, o, r, B, ()) : DCap), b3))
      obtain ⟨y, hy, e2⟩ := getE [(-1 : Int), (100 : Int)] h40 (by simp; omega) (fun v16 => some (((k, v16, r, B, ()) : DCap), b4))
      obtain ⟨z, hz, e3⟩ := getE [(-1 : Int), (1000 : Int)] h40 (by simp; omega) (fun v19 => some (((k, o, r, v19, ()) : DCap), b4))
      rw [e, e2, e3]
      cases (r2 == (0 : Int)) with
      | true => exact ⟨_, b3, rfl, hb3.mono (by omega), fun q => absurd q h0⟩
      | false =>
        cases (r2 == (1 : Int)) with
        | true => exact ⟨_, b4, rfl, hb4.mono (by omega), fun q => absurd q h0⟩
        | false =>
          cases (r2 == (2 : Int)) with
          | true => exact ⟨_, b2, rfl, hb2.mono (by omega), fun q => absurd q h0⟩
          | false =>
            cases (r2 == (3 : Int)) with
            | true => exact ⟨_, b4, rfl, hb4.mono (by omega), fun q => absurd q h0⟩
            | false => exact ⟨_, b2, rfl, hb2.mono (by omega), fun q => absurd q h0⟩

theorem badged_ok (k : Int) : spec_l2Badged k = some (decide (k = 4) || decide (k = 5)) := by
  unfold spec_l2Badged spec_l2BadgedK
  simp only [beqI]
  by_cases h : k = 4
  · simp [h]
  · simp [h]

theorem l20Cap_ok (n : Int) (b : Dl20Rd) {m : Int} (h : rdOk b m) (hm : m ≤ 10000) (hn : 0 ≤ n) : ∃ c b', spec_l20Cap n b = some (c, b') ∧ rdOk b' (m + 15) ∧ (n = 0 → capV c = true) := by
  unfold spec_l20Cap spec_l20CapK
  obtain ⟨r1, b1, d1, h10, h11, hb1⟩ := pickE 7 b h (by omega) (by omega)
  obtain ⟨r2, b2, d2, h20, h21, hb2⟩ := pickE 8 b1 hb1 (by omega) (by omega)
  obtain ⟨r3, b3, d3, hb3, h30, h31, h32⟩ := l20Rights_ok 0 b2 hb2 (by omega) (by omega)
  have hr3 := h32 rfl
  have w1 : IntKind.wrap .i64 (1 + r1) = 1 + r1 := wrap64 (by omega) (by omega)
  simp only [d1, d2, d3, some_bind', badged_ok, w1]
  have fin : ∀ (B : Int) (b' : Dl20Rd) {m' : Int}, rdOk b' m' → m' ≤ m + 12 → (B = 0 ∨ ((1 + r1 = 4 ∨ 1 + r1 = 5) ∧ 0 ≤ B ∧ B ≤ 999)) → ∃ c b'', capTail n (1 + r1) r2 r3 B b' = some (c, b'') ∧ rdOk b'' (m + 15) ∧ (n = 0 → capV c = true) := by
    intro B b' m' hb' hm' hB
    obtain ⟨c, b'', e, hb'', hc⟩ := capTail_ok n (1 + r1) r2 r3 B b' hb' (by omega) hn
    refine ⟨c, b'', e, hb''.mono (by omega), fun q => ?_⟩
    rw [hc q]
    have e0 : decide (1 + r1 = 0) = false := decide_eq_false (by omega)
    simp only [capV, e0, cond_false, rgt, Bool.and_eq_true, Bool.or_eq_true, decide_eq_true_eq]
    omega
  cases hbg : (decide (1 + r1 = 4) || decide (1 + r1 = 5)) with
  | false =>
    simp only [cond_false]
    exact fin 0 b3 hb3 (by omega) (.inl rfl)
  | true =>
    simp only [Bool.or_eq_true, decide_eq_true_eq] at hbg
    obtain ⟨r4, b4, d4, h40, h41, hb4⟩ := pickE 2 b3 hb3 (by omega) (by omega)
    simp only [cond_true, d4, some_bind']
    cases (r4 == (0 : Int)) with
    | true =>
      obtain ⟨r5, b5, d5, h50, h51, hb5⟩ := pickE 4 b4 hb4 (by omega) (by omega)
      simp only [cond_true, d5, some_bind']
      rw [wrap64 (n := 1 + r5) (by omega) (by omega)]
      exact fin (1 + r5) b5 hb5 (by omega) (.inr ⟨hbg, by omega, by omega⟩)
    | false =>
      simp only [cond_false]
      exact fin 0 b4 hb4 (by omega) (.inl rfl)


/-! ### tables that are drawn -/

theorem table_loop (n a1 a2 a3 a4 a5 a6 : Int) (old : List DCap) : ∀ (k : Nat) (b : Dl20Rd) (s : List DCap), s.length + k ≤ 8 → (∀ c ∈ s, capV c = true) → rdOk b (1000 - 20 * (k : Int)) →
    ∃ b' s', loopF spec_l20Table_l0 (3, n, (k : Int), b, a1, a2, a3, a4, a5, a6, old, s, ()) = some (n, b', a1, a2, a3, a4, a5, a6, old, s', ()) ∧ rdOk b' 1000 ∧ s'.length = s.length + k ∧ (∀ c ∈ s', capV c = true) := by
  intro k
  induction k with
  | zero =>
    intro b s hl hs hb
    exact ⟨b, s, loopF_inr rfl, hb.mono (by omega), by omega, hs⟩
  | succ k ih =>
    intro b s hl hs hb
    obtain ⟨r1, b1, d1, h10, h11, hb1⟩ := pickE 3 b hb (by omega) (by omega)
    have hd : decide (((k + 1 : Nat) : Int) > 0) = true := by simp
    have hbig : s.length + 1 ≤ bigRow := by simp only [bigRow]; omega
    have hw : IntKind.wrap .i64 (((k + 1 : Nat) : Int) - 1) = (k : Int) := by rw [wrap64 (by omega) (by omega)]; omega
    have next : ∀ (c : DCap) (b' : Dl20Rd) {m : Int}, capV c = true → rdOk b' m → m ≤ 1000 - 20 * (k : Int) → spec_l20Table_l0 (3, n, ((k + 1 : Nat) : Int), b, a1, a2, a3, a4, a5, a6, old, s, ()) = some (.inl (3, n, (k : Int), b', a1, a2, a3, a4, a5, a6, old, s ++ [c], ())) →
        ∃ b' s', loopF spec_l20Table_l0 (3, n, ((k + 1 : Nat) : Int), b, a1, a2, a3, a4, a5, a6, old, s, ()) = some (n, b', a1, a2, a3, a4, a5, a6, old, s', ()) ∧ rdOk b' 1000 ∧ s'.length = s.length + (k + 1) ∧ (∀ c ∈ s', capV c = true) := by
      intro c b' m hc hb' hm hst
      rw [loopF_inl hst]
      obtain ⟨b2, s2, e1, e2, e3, e4⟩ := ih b' (s ++ [c]) (by simp; omega) (fun x hx => by
        rcases List.mem_append.1 hx with hx | hx
        · exact hs x hx
        · rw [List.mem_singleton] at hx; rw [hx]; exact hc) (hb'.mono hm)
      exact ⟨b2, s2, e1, e2, by simp at e3; omega, e4⟩
    by_cases c0 : r1 = 0
    · obtain ⟨c, b2, d2, hb2, hc⟩ := l20Cap_ok 0 b1 hb1 (by omega) (by omega)
      refine next c b2 (hc rfl) hb2 (by omega) ?_
      have : (r1 == (0 : Int)) = true := by simp [c0]
      simp only [spec_l20Table_l0, spec_l20Table_l0K, hd, cond_true, d1, some_bind', this, d2, chk_pos hbig, hw]
    · have e0 : (r1 == (0 : Int)) = false := by simp [c0]
      by_cases c1 : r1 = 1
      · obtain ⟨r2, b2, d2, h20, h21, hb2⟩ := pickE 4 b1 hb1 (by omega) (by omega)
        obtain ⟨r3, b3, d3, h30, h31, hb3⟩ := pickE 16 b2 hb2 (by omega) (by omega)
        have e1 : (r1 == (1 : Int)) = true := by simp [c1]
        refine next (2, r2, r3, 0, ()) b3 ?_ hb3 (by omega) ?_
        · have e2 : decide ((2 : Int) = 0) = false := rfl
          simp only [capV, rgt, e2, cond_false, Bool.and_eq_true, Bool.or_eq_true, decide_eq_true_eq]
          exact ⟨⟨by omega, by omega⟩, ⟨h20, by omega⟩, ⟨h30, by omega⟩, .inl trivial⟩
        · have w4 : IntKind.wrap .i64 ((3 : Int) + 1) = 4 := wrap64 (by omega) (by omega)
          simp only [spec_l20Table_l0, spec_l20Table_l0K, hd, cond_true, d1, some_bind', e0, e1, cond_false, w4, d2, d3, chk_pos hbig, hw]
      · have e1 : (r1 == (1 : Int)) = false := by simp [c1]
        refine next (0, 0, 0, 0, ()) b1 rfl hb1 (by omega) ?_
        simp only [spec_l20Table_l0, spec_l20Table_l0K, hd, cond_true, d1, some_bind', e0, e1, cond_false, chk_pos hbig, hw]

theorem pw1 : IntKind.wrap .i64 ((1 : Int) * 2 ^ (min ((0 : Int)).toNat 64)) = 1 := by decide
theorem pw2 : IntKind.wrap .i64 ((1 : Int) * 2 ^ (min ((1 : Int)).toNat 64)) = 2 := by decide
theorem pw4 : IntKind.wrap .i64 ((1 : Int) * 2 ^ (min ((2 : Int)).toNat 64)) = 4 := by decide
theorem pw8 : IntKind.wrap .i64 ((1 : Int) * 2 ^ (min ((3 : Int)).toNat 64)) = 8 := by decide

theorem tab_ok {bits guard gb : Int} {s : List DCap} (h1 : bits = 1 ∨ bits = 2 ∨ bits = 3) (h2 : gb = 0 ∨ gb = 1 ∨ gb = 2) (h3 : 0 ≤ guard) (h4 : guard < IntKind.wrap .i64 ((1 : Int) * 2 ^ (min gb.toNat 64)))
    (h5 : (s.length : Int) = IntKind.wrap .i64 ((1 : Int) * 2 ^ (min bits.toNat 64))) (hs : ∀ c ∈ s, capV c = true) : tabV (bits, guard, gb, s, ()) = true := by
  have ha : s.all capV = true := List.all_eq_true.2 hs
  unfold tabV
  simp only [ha, h5, decide_true, Bool.and_true, rgt, Bool.and_eq_true, decide_eq_true_eq]
  rcases h2 with rfl | rfl | rfl
  · rw [pw1] at h4 ⊢; rw [wrap64 (n := (1 : Int) - 1) (by omega) (by omega)]; omega
  · rw [pw2] at h4 ⊢; rw [wrap64 (n := (2 : Int) - 1) (by omega) (by omega)]; omega
  · rw [pw4] at h4 ⊢; rw [wrap64 (n := (4 : Int) - 1) (by omega) (by omega)]; omega

theorem l20Table_ok (n : Int) (b : Dl20Rd) (hn : 0 ≤ n) (hb : rdOk b 10) : ∃ bits guard gb off len b' xs, spec_l20Table 3 n b = some (bits, guard, gb, off, len, b', xs) ∧ rdOk b' 2000 ∧ xs.length ≤ 8 ∧ (n = 0 → tabV (bits, guard, gb, (xs.drop off).take len, ()) = true) := by
  unfold spec_l20Table spec_l20TableK
  obtain ⟨r1, b1, d1, h10, h11, hb1⟩ := pickE 3 b hb (by omega) (by omega)
  obtain ⟨r2, b2, d2, h20, h21, hb2⟩ := pickE 3 b1 hb1 (by omega) (by omega)
  have h2 : r2 = 0 ∨ r2 = 1 ∨ r2 = 2 := by omega
  have hpg : 1 ≤ IntKind.wrap .i64 ((1 : Int) * 2 ^ (min r2.toNat 64)) ∧ IntKind.wrap .i64 ((1 : Int) * 2 ^ (min r2.toNat 64)) ≤ 4 := by
    rcases h2 with rfl | rfl | rfl
    · rw [pw1]; omega
    · rw [pw2]; omega
    · rw [pw4]; omega
  obtain ⟨r3, b3, d3, h30, h31, hb3⟩ := pickE (IntKind.wrap .i64 ((1 : Int) * 2 ^ (min r2.toNat 64))) b2 hb2 (by omega) hpg.1
  have w1 : IntKind.wrap .i64 (1 + r1) = 1 + r1 := wrap64 (by omega) (by omega)
  have h1 : 1 + r1 = 1 ∨ 1 + r1 = 2 ∨ 1 + r1 = 3 := by omega
  obtain ⟨k, hk, hk8⟩ : ∃ k : Nat, IntKind.wrap .i64 ((1 : Int) * 2 ^ (min (1 + r1).toNat 64)) = (k : Int) ∧ 2 ≤ k ∧ k ≤ 8 := by
    rcases h1 with e | e | e
    · rw [e, pw2]; exact ⟨2, rfl, by omega, by omega⟩
    · rw [e, pw4]; exact ⟨4, rfl, by omega, by omega⟩
    · rw [e, pw8]; exact ⟨8, rfl, by omega, by omega⟩
  obtain ⟨b4, s, e4, hb4, hsl, hs⟩ := table_loop n 0 0 0 (1 + r1) r3 r2 [] k b3 [] (by simp; omega) (fun c hc => by simp at hc) (hb3.mono (by omega))
  simp only [List.length_nil, Nat.zero_add] at hsl
  simp only [d1, d2, some_bind', chk_pos h20, d3, w1, chk_pos (show 0 ≤ 1 + r1 by omega), hk, e4]
  have hok : tabV (1 + r1, r3, r2, s, ()) = true := tab_ok h1 h2 h30 h31 (by rw [hk, hsl]) hs
  by_cases h0 : n = 0
  · subst h0
    simp only [odd0, some_bind', cond_false]
    exact ⟨_, _, _, _, _, b4, s, rfl, hb4.mono (by omega), by omega, fun _ => by simpa using hok⟩
  · obtain ⟨c, b5, d5, hb5⟩ := oddE n b4 hb4 (by omega) hn
    simp only [d5, some_bind']
    cases c with
    | false => exact ⟨_, _, _, _, _, b5, s, rfl, hb5.mono (by omega), by omega, fun q => absurd q h0⟩
    | true =>
      obtain ⟨r6, b6, d6, h60, h61, hb6⟩ := pickE 4 b5 hb5 (by omega) (by omega)
      obtain ⟨r7, b7, d7, h70, h71, hb7⟩ := pickE 2 b6 hb6 (by omega) (by omega)
      obtain ⟨c8, b8, d8, hb8, _⟩ := l20Cap_ok 1 b6 hb6 (by omega) (by omega)
      have hs0 : 0 < s.length := by omega
      simp only [cond_true, d6, d7, d8, some_bind', chk_pos h20, chk_pos hs0, getK_lt hs0, chk_pos (show 1 ≤ s.length by omega), nnK_pos h70]
      rw [getK_lt (show r7.toNat < [(0 : Int), (5 : Int)].length by simp; omega), getK_lt (show r7.toNat < [(-1 : Int), IntKind.wrap .i64 ((1 : Int) * 2 ^ (min r2.toNat 64))].length by simp; omega)]
      cases (r6 == (0 : Int)) with
      | true => exact ⟨_, _, _, _, _, b7, s, rfl, hb7.mono (by omega), by omega, fun q => absurd q h0⟩
      | false =>
        cases (r6 == (1 : Int)) with
        | true => exact ⟨_, _, _, _, _, b7, s, rfl, hb7.mono (by omega), by omega, fun q => absurd q h0⟩
        | false =>
          cases (r6 == (2 : Int)) with
          | true => exact ⟨_, _, _, _, _, b6, s, rfl, hb6.mono (by omega), by omega, fun q => absurd q h0⟩
          | false => exact ⟨_, _, _, _, _, b8, _, rfl, hb8.mono (by omega), by simp; omega, fun q => absurd q h0⟩

theorem wrap_le (x : Int) : IntKind.wrap .i64 x ≤ 9223372036854775807 := by
  simp only [IntKind.wrap, IntKind.bits, IntKind.signed]
  simp
  split <;> omega

theorem packC_le (c : DCap) : packC c ≤ 9223372036854775807 := by
  unfold packC
  cases capV c with
  | false => show (-1 : Int) ≤ _; omega
  | true => exact wrap_le _

theorem packT_le (t : DTable) : ∀ x ∈ packT t, x ≤ 9223372036854775807 := by
  intro x hx
  unfold packT at hx
  cases h : tabV t with
  | false => rw [h] at hx; simp at hx
  | true =>
    rw [h] at hx
    simp only [cond_true, List.mem_cons, List.mem_map] at hx
    rcases hx with rfl | ⟨c, _, rfl⟩
    · exact wrap_le _
    · exact packC_le c

/-! ### packing and unpacking -/

theorem unp_pack {c : DCap} (h : capV c = true) : unp (packC c) = c ∧ unpV (packC c) = true := by
  obtain ⟨c0, c1, c2, c3, ⟨⟩⟩ := c
  have hr : 0 ≤ c0 ∧ c0 ≤ 7 ∧ 0 ≤ c1 ∧ c1 ≤ 99 ∧ 0 ≤ c2 ∧ c2 ≤ 15 ∧ 0 ≤ c3 ∧ c3 ≤ 999 := by
    have h' := h
    unfold capV at h'
    cases e : decide (c0 = 0) with
    | true =>
      have e' : c0 = 0 := of_decide_eq_true e
      simp only [e, cond_true, Bool.and_eq_true, decide_eq_true_eq] at h'
      omega
    | false =>
      simp only [e, cond_false, rgt, Bool.and_eq_true, Bool.or_eq_true, decide_eq_true_eq] at h'
      omega
  have hp : packC (c0, c1, c2, c3, ()) = c0 + 8 * (c1 + 100 * (c2 + 16 * c3)) := by
    unfold packC
    simp only [h, cond_true]
    rw [wrap64 (n := 16 * c3) (by omega) (by omega), wrap64 (n := c2 + 16 * c3) (by omega) (by omega), wrap64 (n := 100 * (c2 + 16 * c3)) (by omega) (by omega), wrap64 (n := c1 + 100 * (c2 + 16 * c3)) (by omega) (by omega),
      wrap64 (n := 8 * (c1 + 100 * (c2 + 16 * c3))) (by omega) (by omega), wrap64 (by omega) (by omega)]
  have hu : unp (packC (c0, c1, c2, c3, ())) = (c0, c1, c2, c3, ()) := by
    rw [hp, unp_eq (by omega) (by omega)]
    have e1 : (c0 + 8 * (c1 + 100 * (c2 + 16 * c3))) % 8 = c0 := by omega
    have e2 : (c0 + 8 * (c1 + 100 * (c2 + 16 * c3))) / 8 % 100 = c1 := by omega
    have e3 : (c0 + 8 * (c1 + 100 * (c2 + 16 * c3))) / 800 % 16 = c2 := by omega
    have e4 : (c0 + 8 * (c1 + 100 * (c2 + 16 * c3))) / 12800 = c3 := by omega
    rw [e1, e2, e3, e4]
  refine ⟨hu, ?_⟩
  unfold unpV
  rw [hu, h]
  simp only [Bool.and_true, decide_eq_true_eq]
  rw [hp]
  omega

theorem tab_range {t : DTable} (h : tabV t = true) : 1 ≤ t.1 ∧ t.1 ≤ 4 ∧ 0 ≤ t.2.2.1 ∧ t.2.2.1 ≤ 4 ∧ 0 ≤ t.2.1 ∧ t.2.1 ≤ 15 ∧ ∀ c ∈ t.2.2.2.1, capV c = true := by
  unfold tabV at h
  simp only [rgt, Bool.and_eq_true, decide_eq_true_eq, List.all_eq_true] at h
  obtain ⟨h1, h2, h3, h4, h5⟩ := h
  have : t.2.1 ≤ 15 := by
    have e : t.2.2.1 = 0 ∨ t.2.2.1 = 1 ∨ t.2.2.1 = 2 ∨ t.2.2.1 = 3 ∨ t.2.2.1 = 4 := by omega
    have h6 := h3.2
    rcases e with e | e | e | e | e <;> rw [e] at h6
    · rw [pw1, wrap64 (n := (1 : Int) - 1) (by omega) (by omega)] at h6; omega
    · rw [pw2, wrap64 (n := (2 : Int) - 1) (by omega) (by omega)] at h6; omega
    · rw [pw4, wrap64 (n := (4 : Int) - 1) (by omega) (by omega)] at h6; omega
    · rw [pw8, wrap64 (n := (8 : Int) - 1) (by omega) (by omega)] at h6; omega
    · rw [show IntKind.wrap .i64 ((1 : Int) * 2 ^ (min ((4 : Int)).toNat 64)) = 16 from by decide, wrap64 (n := (16 : Int) - 1) (by omega) (by omega)] at h6; omega
  exact ⟨h1.1, h1.2, h2.1, h2.2, h3.1, this, h5⟩

theorem unpT_packT {t : DTable} (h : tabV t = true) : unpT (packT t) = (t.1, t.2.1, t.2.2.1, true, t.2.2.2.1) := by
  obtain ⟨t0, t1, t2, t3, ⟨⟩⟩ := t
  obtain ⟨h1, h2, h3, h4, h5, h6, h7⟩ := tab_range h
  simp only at h1 h2 h3 h4 h5 h6 h7 ⊢
  have hv : IntKind.wrap .i64 (t0 + (IntKind.wrap .i64 ((8 : Int) * (IntKind.wrap .i64 (t2 + (IntKind.wrap .i64 ((8 : Int) * t1))))))) = t0 + 8 * (t2 + 8 * t1) := by
    rw [wrap64 (n := 8 * t1) (by omega) (by omega), wrap64 (n := t2 + 8 * t1) (by omega) (by omega), wrap64 (n := 8 * (t2 + 8 * t1)) (by omega) (by omega), wrap64 (by omega) (by omega)]
  have hp : packT (t0, t1, t2, t3, ()) = (t0 + 8 * (t2 + 8 * t1)) :: t3.map packC := by
    unfold packT
    simp only [h, cond_true, hv]
  have hmap : (t3.map packC).map unp = t3 := by
    rw [List.map_map]
    conv => rhs; rw [← List.map_id t3]
    exact List.map_congr_left fun c hc => (unp_pack (h7 c hc)).1
  have hall : (t3.map packC).all unpV = true := by
    rw [List.all_map, List.all_eq_true]
    exact fun c hc => (unp_pack (h7 c hc)).2
  have hof : unpOf (t0 + 8 * (t2 + 8 * t1)) (t3.map packC) = (t0, t1, t2, t3, ()) := by
    unfold unpOf
    rw [hmap, Int.tmod_eq_emod_of_nonneg (by omega), Int.tdiv_eq_ediv_of_nonneg (by omega), Int.tdiv_eq_ediv_of_nonneg (by omega), wrap64 (n := (t0 + 8 * (t2 + 8 * t1)) / 64) (by omega) (by omega), wrap64 (n := (t0 + 8 * (t2 + 8 * t1)) / 8) (by omega) (by omega), Int.tmod_eq_emod_of_nonneg (by omega)]
    have e1 : (t0 + 8 * (t2 + 8 * t1)) % 8 = t0 := by omega
    have e2 : (t0 + 8 * (t2 + 8 * t1)) / 64 = t1 := by omega
    have e3 : (t0 + 8 * (t2 + 8 * t1)) / 8 % 8 = t2 := by omega
    rw [e1, e2, e3]
  rw [hp]
  have e0 : decide (t0 + 8 * (t2 + 8 * t1) < 0) = false := decide_eq_false (by omega)
  simp only [unpT, e0, cond_false, hall, hof, h, Bool.and_self, cond_true, hmap]

theorem packT_unpT {xs : List Int} (hx : ∀ x ∈ xs, x ≤ 9223372036854775807) (h : (unpT xs).2.2.2.1 = true) : packT ((unpT xs).1, (unpT xs).2.1, (unpT xs).2.2.1, (unpT xs).2.2.2.2, ()) = xs := by
  unfold unpT at h ⊢
  cases xs with
  | nil => simp at h
  | cons v r =>
    simp only at h ⊢
    by_cases hv : v < 0
    · simp [hv] at h
    · have e0 : decide (v < 0) = false := decide_eq_false hv
      simp only [e0, cond_false] at h ⊢
      cases hc : (r.all unpV && tabV (unpOf v r)) with
      | false => rw [hc] at h; simp at h
      | true =>
        simp only [cond_true]
        simp only [Bool.and_eq_true, List.all_eq_true] at hc
        have em : ((unpOf v r).1, (unpOf v r).2.1, (unpOf v r).2.2.1, r.map unp, ()) = unpOf v r := rfl
        rw [em]
        have hmap : (r.map unp).map packC = r := by
          rw [List.map_map]
          conv => rhs; rw [← List.map_id r]
          refine List.map_congr_left fun n hn => ?_
          have h1 := hc.1 n hn
          unfold unpV at h1
          simp only [Bool.and_eq_true, decide_eq_true_eq] at h1
          have := pack_unp h1.1 (hx n (List.mem_cons_of_mem _ hn))
          rw [h1.2] at this
          exact this
        have hvx := hx v List.mem_cons_self
        unfold packT
        simp only [hc.2, cond_true]
        have e1 : (unpOf v r).2.2.2.1 = r.map unp := rfl
        rw [e1, hmap]
        congr 1
        show IntKind.wrap .i64 (Int.tmod v 8 + IntKind.wrap .i64 (8 * IntKind.wrap .i64 (Int.tmod (IntKind.wrap .i64 (Int.tdiv v 8)) 8 + IntKind.wrap .i64 (8 * IntKind.wrap .i64 (Int.tdiv v 64))))) = v
        rw [Int.tmod_eq_emod_of_nonneg (a := v) (by omega), Int.tdiv_eq_ediv_of_nonneg (by omega), Int.tdiv_eq_ediv_of_nonneg (by omega), wrap64 (n := v / 8) (by omega) (by omega), wrap64 (n := v / 64) (by omega) (by omega), Int.tmod_eq_emod_of_nonneg (by omega),
          wrap64 (n := 8 * (v / 64)) (by omega) (by omega), wrap64 (n := v / 8 % 8 + 8 * (v / 64)) (by omega) (by omega), wrap64 (n := 8 * (v / 8 % 8 + 8 * (v / 64))) (by omega) (by omega), wrap64 (by omega) (by omega)]
        omega

/-! ### the laws -/

theorem alive_ok : laws_alive = some true := rfl

theorem sameInts_ok (xs ys : List Int) (h : xs.length ≤ 1048577) : laws_sameInts xs ys = some (decide (xs = ys)) := by
  unfold laws_sameInts laws_sameIntsK
  by_cases hl : xs.length = ys.length
  · have e : ((xs.length : Int) != (ys.length : Int)) = false := by simp [hl]
    have hq : loopF laws_sameInts_l0 (xs, ys, 0, ()) = some (if xs = ys then .inl () else .inr (false, ())) := by
      refine loop_eq2 xs ys (fun i => (xs, ys, (i : Int), ())) _ _ hl (fun i x y hx hy => ?_) ?_ rfl
      · have hl := get_lt hx
        simp only [laws_sameInts_l0, laws_sameInts_l0K, dec_lt hx, cond_true, nnK_nat, getK_some hx, getK_some hy, wrapS (show i < 4611686018427387904 by omega)]
        by_cases e : x = y
        · simp [e]
        · have : (x != y) = true := bne_iff_ne.mpr e
          simp [e, this]
      · simp only [laws_sameInts_l0, laws_sameInts_l0K, dec_nlt, cond_false]
    rw [e, cond_false, hq]
    by_cases h : xs = ys <;> simp [h, endK]
  · have e : ((xs.length : Int) != (ys.length : Int)) = true := by simp; omega
    rw [e, cond_true]
    have : ¬ xs = ys := fun e => hl (by rw [e])
    simp [this]

theorem sameTable_ok (a : DTable) (h : a.2.2.2.1.length ≤ 1048577) : laws_sameTable a a = some true := by
  unfold laws_sameTable laws_sameTableK
  have em : (a.1, a.2.1, a.2.2.1, a.2.2.2.1, ()) = a := rfl
  have hq : loopF laws_sameTable_l0 (a, a, 0, ()) = some (.inl (a, a, ())) := by
    have := loop_list0 (nxt := laws_sameTable_l0) a.2.2.2.1 (fun i (_ : Unit) => (a, a, (i : Int), ())) (fun _ _ _ => .inl ()) (fun _ => .inl (a, a, ())) ()
      (fun i x s hx => ?_) (fun s => ?_) (st := (a, a, 0, ())) rfl
    · rw [this]
      have : ∀ (r : List DCap) (i : Nat), goL (fun (_ : Nat) (_ : DCap) (_ : Unit) => (.inl () : Unit ⊕ ((DTable × DTable × Unit) ⊕ (Bool × Unit)))) (fun _ => .inl (a, a, ())) r i () = .inl (a, a, ()) := by
        intro r
        induction r with
        | nil => intro i; rfl
        | cons x r ih => intro i; exact ih (i + 1)
      rw [this]
    · have hl := get_lt hx
      simp only [laws_sameTable_l0, laws_sameTable_l0K, dec_lt hx, cond_true, nnK_nat, getK_some hx, wrapS (show i < 4611686018427387904 by omega), decide_true, Bool.and_self, Bool.not_true, cond_false, goTo_l]
    · simp only [laws_sameTable_l0, laws_sameTable_l0K, dec_nlt, cond_false]
  rw [em, hq]
  simp [endK]

theorem DrawPackTable_ok (code : List Int) (hc : ∀ x ∈ code, 0 ≤ x ∧ x ≤ 255) : ∃ bits guard gb off len xs, spec_DrawPackTable code = some (bits, guard, gb, off, len, xs) ∧ xs.length ≤ 8 := by
  unfold spec_DrawPackTable spec_DrawPackTableK
  obtain ⟨b, e, hb⟩ := openE code hc
  obtain ⟨bits, guard, gb, off, len, b1, xs, e1, hb1, hl, _⟩ := l20Table_ok 6 b (by omega) (hb.mono (by omega))
  simp only [e, e1, some_bind']
  exact ⟨_, _, _, _, _, _, rfl, hl⟩

theorem part_len {xs : List DCap} (h : xs.length ≤ 8) (off len : Nat) : ((xs.drop off).take len).length ≤ 8 := by
  simp; omega

theorem FnPackTable_law (code : List Int) (h : WfD (.cons (.sl (.int .u8)) .nil) (code, ())) : laws_FnPackTable code = some true := by
  have hc : ∀ x ∈ code, 0 ≤ x ∧ x ≤ 255 := fun x hx => h.1.2 x hx
  unfold laws_FnPackTable laws_FnPackTableK
  by_cases hl : ((code.length : Int) > 1048576)
  · simp [hl]
  · obtain ⟨bits, guard, gb, off, len, xs, hs, hl8⟩ := DrawPackTable_ok code hc
    have hp := part_len hl8 off len
    simp only [hl, decide_false, cond_false, hs, some_bind']
    generalize hys : (xs.drop off).take len = ys at hp ⊢
    have hpl := packT_length (bits, guard, gb, ys, ())
    simp only at hpl
    simp only [impl_PackTable_ok (bits, guard, gb, ys, ()) (show ys.length ≤ 1048576 by omega), spec_PackTable_ok (bits, guard, gb, ys, ()) (show ys.length ≤ 1048576 by omega), some_bind', sameInts_ok _ _ (show (packT (bits, guard, gb, ys, ())).length ≤ 1048577 by omega),
      decide_true, Bool.not_true, cond_false, spec_TableValid_ok (bits, guard, gb, ys, ()) (show ys.length ≤ 1048577 by omega)]
    cases hv : tabV (bits, guard, gb, ys, ()) with
    | false =>
      have : packT (bits, guard, gb, ys, ()) = [] := by simp [packT, hv]
      simp [this, alive_ok]
    | true =>
      have hlen : (packT (bits, guard, gb, ys, ())).length = ys.length + 1 := by simp [packT, hv]
      simp only [Bool.not_true, cond_false, impl_UnpackTable_ok _ (show (packT (bits, guard, gb, ys, ())).length ≤ 1048576 by omega) (packT_le _), some_bind', unpT_packT hv, cond_true, sameTable_ok (bits, guard, gb, ys, ()) (show ys.length ≤ 1048577 by omega), hlen]
      rw [wrap64 (n := (ys.length : Int) + 1) (by omega) (by omega)]
      simp

theorem DrawUnpackTable_ok (code : List Int) (hc : ∀ x ∈ code, 0 ≤ x ∧ x ≤ 255) : ∃ n xs, spec_DrawUnpackTable code = some (n, xs) ∧ xs.length ≤ 10 ∧ ∀ x ∈ xs, x ≤ 9223372036854775807 := by
  unfold spec_DrawUnpackTable spec_DrawUnpackTableK
  obtain ⟨b, e, hb⟩ := openE code hc
  obtain ⟨bits, guard, gb, off, len, b1, xs, e1, hb1, hl, hv⟩ := l20Table_ok 0 b (by omega) (hb.mono (by omega))
  have hp := part_len hl off len
  have hv := hv rfl
  simp only [e, e1, some_bind']
  generalize hys : (xs.drop off).take len = ys at hp hv ⊢
  have hlen : (packT (bits, guard, gb, ys, ())).length = ys.length + 1 := by simp [packT, hv]
  have hle := packT_le (bits, guard, gb, ys, ())
  obtain ⟨c, b2, d2, hb2⟩ := oddE 3 b1 hb1 (by omega) (by omega)
  simp only [spec_PackTable_ok (bits, guard, gb, ys, ()) (show ys.length ≤ 1048576 by omega), some_bind', d2]
  generalize packT (bits, guard, gb, ys, ()) = L at hlen hle ⊢
  cases c with
  | false => exact ⟨_, L, rfl, by omega, hle⟩
  | true =>
    obtain ⟨r3, b3, d3, h30, h31, hb3⟩ := pickE 3 b2 hb2 (by omega) (by omega)
    obtain ⟨r4, b4, d4, h40, h41, hb4⟩ := pickE (L.length : Int) b3 hb3 (by omega) (by omega)
    obtain ⟨r5, b5, d5, h50, h51, hb5⟩ := pickE 256 b4 hb4 (by omega) (by omega)
    obtain ⟨r6, b6, d6, h60, h61, hb6⟩ := pickE 4 b5 hb5 (by omega) (by omega)
    have hlt : r4.toNat < L.length := by omega
    have hlt6 : r6.toNat < [(-1 : Int), (7 : Int), r5, (1099511627776 : Int)].length := by simp; omega
    simp only [cond_true, d3, d4, d5, d6, some_bind', nnK_pos h40, nnK_pos h60, chk_pos hlt, getK_lt hlt, chk_pos (show r4.toNat ≤ L.length by omega), chk_pos (show L.length + 1 ≤ bigRow by simp only [bigRow]; omega)]
    rw [getK_lt hlt6]
    have hm := List.getElem_mem hlt6
    cases (r3 == (0 : Int)) with
    | true =>
      refine ⟨_, _, rfl, by simp; omega, fun x hx => ?_⟩
      rcases List.mem_or_eq_of_mem_set hx with hx | hx
      · exact hle x hx
      · rw [← hx] at hm
        simp only [List.mem_cons, List.not_mem_nil, or_false] at hm
        omega
    | false =>
      cases (r3 == (1 : Int)) with
      | true => exact ⟨_, L, rfl, by omega, hle⟩
      | false =>
        refine ⟨_, _, rfl, by simp; omega, fun x hx => ?_⟩
        rcases List.mem_append.1 hx with hx | hx
        · exact hle x hx
        · rw [List.mem_singleton] at hx; omega

theorem unpT_no {xs : List Int} (h : (unpT xs).2.2.2.1 = false) : unpT xs = (0, 0, 0, false, []) := by
  unfold unpT at h ⊢
  cases xs with
  | nil => rfl
  | cons v r =>
    simp only at h ⊢
    cases e0 : decide (v < 0) with
    | true => rfl
    | false =>
      simp only [e0, cond_false] at h ⊢
      cases hc : (r.all unpV && tabV (unpOf v r)) with
      | false => rfl
      | true => rw [hc] at h; simp at h

theorem FnUnpackTable_law (code : List Int) (h : WfD (.cons (.sl (.int .u8)) .nil) (code, ())) : laws_FnUnpackTable code = some true := by
  have hc : ∀ x ∈ code, 0 ≤ x ∧ x ≤ 255 := fun x hx => h.1.2 x hx
  unfold laws_FnUnpackTable laws_FnUnpackTableK
  by_cases hl : ((code.length : Int) > 1048576)
  · simp [hl]
  · obtain ⟨n, xs, hs, hl10, hle⟩ := DrawUnpackTable_ok code hc
    simp only [hl, decide_false, cond_false, hs, some_bind']
    have hyl : ((xs.drop 0).take n).length ≤ 10 := by simp; omega
    have hye : ∀ x ∈ (xs.drop 0).take n, x ≤ 9223372036854775807 := fun x hx => hle x (List.mem_of_mem_drop (List.mem_of_mem_take hx))
    generalize (xs.drop 0).take n = ys at hyl hye ⊢
    have hul := unpT_length ys
    simp only [impl_UnpackTable_ok ys (by omega) hye, spec_UnpackTable_ok ys (by omega), some_bind', sameTable_ok ((unpT ys).1, (unpT ys).2.1, (unpT ys).2.2.1, (unpT ys).2.2.2.2, ()) (show (unpT ys).2.2.2.2.length ≤ 1048577 by omega), Bool.not_true, Bool.not_false, cond_true, beq_self_eq_true, cond_false]
    cases hv : (unpT ys).2.2.2.1 with
    | false =>
      rw [unpT_no hv]
      simp only [Bool.not_false, cond_true, sameTable_ok ((0 : Int), (0 : Int), (0 : Int), [], ()) (by simp), some_bind', alive_ok, Bool.not_true, cond_false]
    | true =>
      have hpk := packT_unpT hye hv
      simp only [Bool.not_true, cond_false, cond_true, impl_PackTable_ok ((unpT ys).1, (unpT ys).2.1, (unpT ys).2.2.1, (unpT ys).2.2.2.2, ()) (show (unpT ys).2.2.2.2.length ≤ 1048576 by omega), hpk, some_bind', sameInts_ok ys ys (by omega), decide_true]


end Go.Ev
