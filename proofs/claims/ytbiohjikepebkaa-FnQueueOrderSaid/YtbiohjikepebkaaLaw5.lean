/-
  Plain laws of queues: drawn queues.
-/
import Derived.Test.YtbiohjikepebkaaLaw4
namespace Go.Ev
set_option linter.unusedVariables false
set_option linter.unusedSimpArgs false
set_option maxRecDepth 100000
set_option synthInstance.maxSize 2000
set_option synthInstance.maxHeartbeats 400000

/-! ### draws -/

/-- a reader: bytes, no more than 2000, and how often it was asked -/
def rdOk (b : Dl20Rd) (m : Int) : Prop := b.1.length ≤ 2000 ∧ (∀ x ∈ b.1, 0 ≤ x ∧ x ≤ 255) ∧ 0 ≤ b.2.1 ∧ b.2.1 ≤ m

theorem wrapU {x : Int} (h : 0 ≤ x) (h1 : x < 18446744073709551616) : IntKind.wrap .u64 x = x := by
  simp [IntKind.wrap, IntKind.bits, IntKind.signed]
  omega

theorem draw_ok (n : Int) (b : Dl20Rd) {m : Int} (h : rdOk b m) (hm : m ≤ 1000000000) (hn : 1 ≤ n) : ∃ r, spec_l20Rd_pick n b = some (r, (b.1, b.2.1 + 1, ())) ∧ 0 ≤ r ∧ r < n := by
  obtain ⟨h1, h2, h3, h4⟩ := h
  unfold spec_l20Rd_pick spec_l20Rd_pickK
  have e0 : decide (n < 1) = false := decide_eq_false (by omega)
  simp only [e0, Bool.not_false, cond_true]
  rw [wrap64 (n := b.2.1 + 1) (by omega) (by omega), wrap64 (n := b.2.1 + 1 - 1) (by omega) (by omega), show b.2.1 + 1 - 1 = b.2.1 from by omega]
  by_cases hz : (b.1.length : Int) = 0
  · simp [hz]; omega
  · have e1 : ((b.1.length : Int) == 0) = false := by simpa using hz
    simp only [e1, cond_false]
    by_cases hlt : b.2.1 < (b.1.length : Int)
    · have hl : b.2.1.toNat < b.1.length := by omega
      have hv := h2 b.1[b.2.1.toNat] (List.getElem_mem hl)
      simp only [hlt, decide_true, cond_true, nnK_pos h3]
      rw [getK_lt hl, chk_pos (by omega), wrap64 (n := b.1[b.2.1.toNat]) (by omega) (by omega), Int.tmod_eq_emod_of_nonneg (by omega)]
      exact ⟨_, rfl, Int.emod_nonneg _ (by omega), Int.emod_lt_of_pos _ (by omega)⟩
    · simp only [hlt, decide_false, cond_false]
      have hp : (0 : Int) < (b.1.length : Int) := by omega
      rw [chk_pos hz, Int.tmod_eq_emod_of_nonneg (a := b.2.1) h3]
      have g1 := Int.emod_nonneg b.2.1 hz
      have g2 := Int.emod_lt_of_pos b.2.1 hp
      rw [nnK_pos g1, getK_lt (show (b.2.1 % (b.1.length : Int)).toNat < b.1.length by omega), chk_pos hz, wrap64 (n := b.2.1 * 7) (by omega) (by omega), wrap64 (n := b.2.1 * 7 + 3) (by omega) (by omega), Int.tmod_eq_emod_of_nonneg (a := b.2.1 * 7 + 3) (by omega)]
      have g3 := Int.emod_nonneg (b.2.1 * 7 + 3) hz
      have g4 := Int.emod_lt_of_pos (b.2.1 * 7 + 3) hp
      rw [nnK_pos g3, getK_lt (show ((b.2.1 * 7 + 3) % (b.1.length : Int)).toNat < b.1.length by omega), chk_pos hz, chk_pos (show n ≠ 0 by omega)]
      have hv := h2 _ (List.getElem_mem (show (b.2.1 % (b.1.length : Int)).toNat < b.1.length by omega))
      have hw := h2 _ (List.getElem_mem (show ((b.2.1 * 7 + 3) % (b.1.length : Int)).toNat < b.1.length by omega))
      generalize b.1[(b.2.1 % (b.1.length : Int)).toNat]'(by omega) = v at hv
      generalize b.1[((b.2.1 * 7 + 3) % (b.1.length : Int)).toNat]'(by omega) = w at hw
      have hq1 : 0 ≤ Int.tdiv b.2.1 (b.1.length : Int) := by rw [Int.tdiv_eq_ediv_of_nonneg h3]; exact Int.ediv_nonneg h3 (by omega)
      have hq2 : Int.tdiv b.2.1 (b.1.length : Int) ≤ b.2.1 := by rw [Int.tdiv_eq_ediv_of_nonneg h3]; exact Int.ediv_le_self _ h3
      generalize Int.tdiv b.2.1 (b.1.length : Int) = q at hq1 hq2
      rw [wrap64 (n := v) (by omega) (by omega), wrap64 (n := v * 131) (by omega) (by omega), wrap64 (n := w) (by omega) (by omega), wrap64 (n := w * 1117) (by omega) (by omega), wrap64 (n := v * 131 + w * 1117) (by omega) (by omega), wrap64 (n := b.2.1 * 29) (by omega) (by omega),
        wrap64 (n := v * 131 + w * 1117 + b.2.1 * 29) (by omega) (by omega), wrap64 (n := q) (by omega) (by omega), wrap64 (n := q * 53) (by omega) (by omega), wrap64 (n := v * 131 + w * 1117 + b.2.1 * 29 + q * 53) (by omega) (by omega)]
      generalize hX : v * 131 + w * 1117 + b.2.1 * 29 + q * 53 = X
      have hX0 : 0 ≤ X ∧ X < 1000000000000 := by omega
      have hY : Int.tdiv X 64 = X / 64 := Int.tdiv_eq_ediv_of_nonneg hX0.1
      rw [hY, wrap64 (n := X / 64) (by omega) (by omega)]
      have hxor : (BitVec.ofInt 64 X ^^^ BitVec.ofInt 64 (X / 64)).toNat < 1099511627776 := by
        rw [BitVec.toNat_xor]
        have small : ∀ z : Int, 0 ≤ z → z < 1000000000000 → (BitVec.ofInt 64 z).toNat < 2 ^ 40 := fun z h0 h1 => by
          rw [BitVec.toNat_ofInt, Int.emod_eq_of_lt h0 (by show z < ((2 ^ 64 : Nat) : Int); omega)]
          omega
        exact Nat.xor_lt_two_pow (n := 40) (small X hX0.1 hX0.2) (small (X / 64) (by omega) (by omega))
      rw [wrap64 (by omega) (by omega), Int.tmod_eq_emod_of_nonneg (by omega)]
      exact ⟨_, rfl, Int.emod_nonneg _ (by omega), Int.emod_lt_of_pos _ (by omega)⟩

theorem rdOk.mono {b : Dl20Rd} {m m' : Int} (h : rdOk b m) (hm : m ≤ m') : rdOk b m' := ⟨h.1, h.2.1, h.2.2.1, Int.le_trans h.2.2.2 hm⟩

theorem pickE (n : Int) (b : Dl20Rd) {m : Int} (h : rdOk b m) (hm : m ≤ 1000000) (hn : 1 ≤ n) : ∃ r b', spec_l20Rd_pick n b = some (r, b') ∧ 0 ≤ r ∧ r < n ∧ rdOk b' (m + 1) := by
  obtain ⟨r, h1, h2, h3⟩ := draw_ok n b h (by omega) hn
  exact ⟨r, _, h1, h2, h3, h.1, h.2.1, by have := h.2.2.1; show 0 ≤ b.2.1 + 1; omega, by have := h.2.2.2; show b.2.1 + 1 ≤ m + 1; omega⟩

theorem oddE (n : Int) (b : Dl20Rd) {m : Int} (h : rdOk b m) (hm : m ≤ 1000000) (hn : 0 ≤ n) : ∃ c b', spec_l20Rd_odd n b = some (c, b') ∧ rdOk b' (m + 1) := by
  by_cases h0 : n = 0
  · subst h0
    exact ⟨false, b, rfl, h.mono (by omega)⟩
  · obtain ⟨r, b', h1, h2, h3, h4⟩ := pickE n b h hm (by omega)
    have hd : decide (n > 0) = true := decide_eq_true (by omega)
    refine ⟨r == IntKind.wrap .i64 (n - 1), b', ?_, h4⟩
    simp only [spec_l20Rd_odd, spec_l20Rd_oddK, hd, cond_true, h1, B7]

theorem openE (code : List Int) (hc : ∀ x ∈ code, 0 ≤ x ∧ x ≤ 255) : ∃ b, spec_l20Open code = some b ∧ rdOk b 0 := by
  unfold spec_l20Open spec_l20OpenK
  by_cases h : ((code.length : Int) > 2000)
  · simp only [h, decide_true, cond_true]
    rw [chk_pos (by omega)]
    exact ⟨_, rfl, by simp; omega, fun x hx => hc x (List.mem_of_mem_take hx), by simp, by simp⟩
  · simp only [h, decide_false, cond_false]
    exact ⟨_, rfl, by show code.length ≤ 2000; omega, hc, by simp, by simp⟩

/-- a number of a row of so many: what is there -/
theorem getE {γ α : Type} (xs : List α) {r : Int} (h0 : 0 ≤ r) (h1 : r < (xs.length : Int)) (K : α → Option γ) : ∃ x, x ∈ xs ∧ (nnK r fun i => getK xs i K) = K x := by
  rw [nnK_pos h0, getK_lt (show r.toNat < xs.length by omega)]
  exact ⟨_, List.getElem_mem _, rfl⟩


/-! ### comparison -/

theorem sameInts_ok (xs ys : List Int) (h : xs.length ≤ 1048577) : laws_sameInts xs ys = some (decide (xs = ys)) := by
  unfold laws_sameInts laws_sameIntsK
  by_cases hl : xs.length = ys.length
  · have e : ((xs.length : Int) != (ys.length : Int)) = false := by simp [hl]
    have hq : loopF laws_sameInts_l0 (xs, ys, 0, ()) = some (if xs = ys then .inl () else .inr (false, ())) := by
      refine loop_eq2 xs ys (fun i => (xs, ys, (i : Int), ())) _ _ hl (fun i x y hx hy => ?_) ?_ rfl
      · have hl := get_lt hx
        simp only [laws_sameInts_l0, laws_sameInts_l0K, dec_lt hx, cond_true, nnK_nat, getK_some hx, getK_some hy, B7, wrapS (show i < 4611686018427387904 by omega)]
        by_cases e : x = y
        · simp [e]
        · have : (x != y) = true := bne_iff_ne.mpr e
          simp [e, this]
      · simp only [laws_sameInts_l0, laws_sameInts_l0K, dec_nlt, cond_false]
    rw [e, cond_false, hq]
    by_cases h : xs = ys <;> simp [h, endK]
  · have e : ((xs.length : Int) != (ys.length : Int)) = true := by simp; omega
    rw [e, cond_true]
    have : ¬ xs = ys := fun e => hl (by rw [e])
    simp [this]

theorem sameQ_ok (a b : Rows) (h : a.length + sumL a ≤ 1048577) : laws_sameQueues (a, ()) (b, ()) = some (decide (a = b)) := by
  have key : laws_sameRows a b = some (decide (a = b)) := by
    unfold laws_sameRows laws_sameRowsK
    by_cases hl : a.length = b.length
    · have e : ((a.length : Int) != (b.length : Int)) = false := by simp [hl]
      have hq : loopF laws_sameRows_l0 (a, b, 0, ()) = some (if a = b then .inl () else .inr (false, ())) := by
        refine loop_eq2 a b (fun i => (a, b, (i : Int), ())) _ _ hl (fun i x y hx hy => ?_) ?_ rfl
        · have hl := get_lt hx
          have hle := row_le hx
          simp only [laws_sameRows_l0, laws_sameRows_l0K, dec_lt hx, cond_true, nnK_nat, getK_some hx, getK_some hy, sameInts_ok x y (by omega), B7, wrapS (show i < 4611686018427387904 by omega)]
          by_cases e : x = y
          · simp [e]
          · simp [e]
        · simp only [laws_sameRows_l0, laws_sameRows_l0K, dec_nlt, cond_false]
      rw [e, cond_false, hq]
      by_cases h : a = b <;> simp [h, endK]
    · have e : ((a.length : Int) != (b.length : Int)) = true := by simp; omega
      rw [e, cond_true]
      have : ¬ a = b := fun e => hl (by rw [e])
      simp [this]
  unfold laws_sameQueues laws_sameQueuesK
  rw [key]
  simp only [B7]

/-! ### queues with a thread more -/

theorem set_perm {q : Rows} {p : Nat} (h : p < q.length) (r : List Int) : (q.set p (rowQ q p ++ r)).flatten.Perm (r ++ q.flatten) := by
  have e1 : q = q.take p ++ rowQ q p :: q.drop (p + 1) := by
    have : rowQ q p = q[p] := by simp [rowQ, List.getD, h]
    rw [this]
    simp
  have e2 : ∀ r, q.set p r = q.take p ++ r :: q.drop (p + 1) := fun r => by rw [List.set_eq_take_append_cons_drop, if_pos h]
  rw [e2]
  conv => rhs; rw [e1]
  simp only [List.flatten_append, List.flatten_cons]
  refine List.Perm.trans (List.Perm.append_left _ ?_) (List.perm_append_comm_assoc _ r _)
  rw [List.append_assoc]
  exact List.perm_append_comm_assoc _ r _

theorem addR_valid {q : Rows} {t : Int} {p : Nat} (hv : qV q = true) (ht : 0 ≤ t ∧ t ≤ 15) (hp : p < 8) (hn : ∀ r ∈ q, t ∉ r) : qV (addR q t p) = true := by
  obtain ⟨h8, hr, hnd⟩ := qV_iff.1 hv
  have hperm : (addR q t p).flatten.Perm (t :: q.flatten) := set_perm (by omega) [t]
  rw [qV_iff]
  refine ⟨by rw [addR_len]; exact h8, fun x hx => ?_, hperm.nodup_iff.2 (List.nodup_cons.2 ⟨fun hm => ?_, hnd⟩)⟩
  · rcases List.mem_cons.1 (hperm.mem_iff.1 hx) with rfl | hx
    · exact ht
    · exact hr x hx
  · obtain ⟨r, hr1, hr2⟩ := List.mem_flatten.1 hm
    exact hn r hr1 hr2

theorem rowQ_set {q : Rows} {p : Nat} (h : p < q.length) (r : List Int) : rowQ (q.set p r) p = r := by simp [rowQ, List.getD, h]
theorem rowQ_set_ne {q : Rows} {p i : Nat} (h : p ≠ i) (r : List Int) : rowQ (q.set p r) i = rowQ q i := by simp [rowQ, List.getD, List.getElem?_set_ne h]
theorem rowQ_mem {q : Rows} {i : Nat} {x : Int} (h : x ∈ rowQ q i) : ∃ r ∈ q, x ∈ r := by
  unfold rowQ List.getD at h
  cases hq : q[i]? with
  | none => rw [hq] at h; cases h
  | some r => rw [hq] at h; exact ⟨r, List.mem_of_getElem? hq, h⟩

/-! ### drawn queues -/

theorem sum_part (R : Rows) (a n : Nat) : sumL ((R.drop a).take n) ≤ sumL R ∧ ((R.drop a).take n).length ≤ R.length := by
  have app : ∀ x y : Rows, sumL (x ++ y) = sumL x + sumL y := fun x y => by simp [sumL]
  have h1 : sumL (R.drop a) ≤ sumL R := by
    conv => rhs; rw [← List.take_append_drop a R]
    rw [app]; omega
  have h2 : sumL ((R.drop a).take n) ≤ sumL (R.drop a) := by
    conv => rhs; rw [← List.take_append_drop n (R.drop a)]
    rw [app]; omega
  exact ⟨by omega, by simp; omega⟩

theorem draw_loop (n few : Int) (hf : 1 ≤ few ∧ few ≤ 3) : ∀ (f : Nat) (b : Dl20Rd) (R : Rows) (m : Int), rdOk b m → m + 2 * (f : Int) ≤ 1000 → qV R = true → sumL R + f ≤ 100 →
    ∃ b' R', loopF spec_l20Queues_l0 (n, few, (f : Int), b, R, ()) = some (n, b', R', ()) ∧ rdOk b' (m + 2 * (f : Int)) ∧ qV R' = true ∧ sumL R' ≤ sumL R + f
  | 0, b, R, m, hb, hm, hv, hs => by
    refine ⟨b, R, loopF_inr ?_, by simpa using hb, hv, Nat.le_refl _⟩
    have : decide (((0 : Nat) : Int) > 0) = false := rfl
    simp only [spec_l20Queues_l0, spec_l20Queues_l0K, this, cond_false]
  | f + 1, b, R, m, hb, hm, hv, hs => by
    have h8 := (qV_iff.1 hv).1
    obtain ⟨t, b1, e1, k1, k2, k3⟩ := pickE 16 b hb (by omega) (by omega)
    obtain ⟨p, b2, e2, l1, l2, l3⟩ := pickE few b1 k3 (by omega) (by omega)
    have hstep : ∃ R1, addQ R t (p * 3) = ((addQ R t (p * 3)).1, R1) ∧ qV R1 = true ∧ sumL R1 ≤ sumL R + 1 := by
      unfold addQ addOk
      have g1 : rgt t 0 15 = true := by simp only [rgt, Bool.and_eq_true, decide_eq_true_eq]; omega
      have g2 : rgt (p * 3) 0 7 = true := by simp only [rgt, Bool.and_eq_true, decide_eq_true_eq]; omega
      rw [hv, g1, g2]
      simp only [Bool.and_self, cond_true]
      rcases prio_cases R t with ⟨q1, q2⟩ | ⟨j, q1, q2, _⟩
      · rw [if_neg (by omega)]
        exact ⟨_, rfl, addR_valid hv ⟨k1, by omega⟩ (by omega) q2, by rw [addR_sum (by omega)]; exact Nat.le_refl _⟩
      · rw [if_pos (by omega)]
        exact ⟨R, rfl, hv, by omega⟩
    obtain ⟨R1, g1, g2, g3⟩ := hstep
    obtain ⟨b', R', i1, i2, i3, i4⟩ := draw_loop n few hf f b2 R1 (m + 1 + 1) l3 (by omega) g2 (by omega)
    refine ⟨b', R', ?_, i2.mono (by omega), i3, by omega⟩
    rw [← i1]
    refine loopF_inl ?_
    have hd : decide (((f + 1 : Nat) : Int) > 0) = true := decide_eq_true (by omega)
    have w1 : IntKind.wrap .i64 (p * 3) = p * 3 := wrap64 (by omega) (by omega)
    have w2 : IntKind.wrap .i64 (((f + 1 : Nat) : Int) - 1) = (f : Int) := by rw [wrap64 (by omega) (by omega)]; omega
    simp only [spec_l20Queues_l0, spec_l20Queues_l0K, hd, cond_true, e1, e2, B7, w1, w2]
    rw [spec_ReadyAdd_ok R t (p * 3) (by omega), g1]
    simp only [B7]

theorem drawQ_ok (n : Int) (hn : 0 ≤ n) (b : Dl20Rd) (h : rdOk b 0) : ∃ a m b' R, spec_l20Queues n b = some (a, m, b', R) ∧ rdOk b' 100 ∧ R.length = 8 ∧ sumL R ≤ 30 := by
  unfold spec_l20Queues spec_l20QueuesK
  obtain ⟨f, b1, e1, k1, k2, k3⟩ := pickE 3 b h (by omega) (by omega)
  obtain ⟨c, b2, e2, l1, l2, l3⟩ := pickE 10 b1 k3 (by omega) (by omega)
  obtain ⟨m, rfl⟩ : ∃ m : Nat, c = (m : Int) := ⟨c.toNat, by omega⟩
  have hnew : spec_NewQueues = some [[], [], [], [], [], [], [], []] := rfl
  have w1 : IntKind.wrap .i64 (1 + f) = 1 + f := wrap64 (by omega) (by omega)
  have hv0 : qV [[], [], [], [], [], [], [], []] = true := rfl
  have hs0 : sumL [[], [], [], [], [], [], [], []] = 0 := rfl
  obtain ⟨b3, R, i1, i2, i3, i4⟩ := draw_loop n (1 + f) (by omega) m b2 _ 2 l3 (by omega) hv0 (by rw [hs0]; omega)
  rw [hs0] at i4
  have h8 := (qV_iff.1 i3).1
  obtain ⟨o, b4, e4, o1⟩ := oddE n b3 i2 (by omega) hn
  simp only [hnew, e1, e2, w1, i1, B7, e4]
  cases o with
  | false => exact ⟨_, _, b4, R, rfl, o1.mono (by omega), h8, by omega⟩
  | true =>
    obtain ⟨d, b5, e5, d1, d2, d3⟩ := pickE 3 b4 o1 (by omega) (by omega)
    simp only [cond_true, e5, B7]
    cases hd0 : (d == (0 : Int)) with
    | true =>
      simp only [cond_true]
      rw [chk_pos (by omega)]
      exact ⟨_, _, b5, R, rfl, d3.mono (by omega), h8, by omega⟩
    | false =>
      simp only [cond_false]
      cases hd1 : (d == (1 : Int)) with
      | true =>
        have hg := rget_of (show 2 < R.length by omega)
        have hle := row_le hg
        have hsum := set_sum (show 2 < R.length by omega) (rowQ R 2 ++ [5, 5])
        simp only [List.length_append, List.length_cons, List.length_nil] at hsum
        simp only [cond_true, getK_some hg]
        rw [chk_pos (by omega), chk_pos (by simp only [bigRow]; omega), chk_pos (by omega), chk_pos (by omega), chk_pos trivial]
        exact ⟨_, _, b5, _, rfl, d3.mono (by omega), by simpa using h8, by omega⟩
      | false =>
        obtain ⟨g, b6, e6, g1, g2, g3⟩ := pickE 2 b5 d3 (by omega) (by omega)
        have hg := rget_of (show 1 < R.length by omega)
        have hle := row_le hg
        simp only [cond_false, e6, B7]
        rw [chk_pos (by omega)]
        obtain ⟨x, _, hx⟩ := getE [(-1 : Int), 16] g1 (by simpa using g2) (fun v20 => getK R 1 fun v21 => chk ((v21.length + 1) ≤ bigRow) <| chk (1 < R.length) <| chk (1 < R.length) <| chk True <| some ((0 : Nat), (R.set 1 (v21 ++ [v20])).length, b6, R.set 1 (v21 ++ [v20])))
        rw [hx]
        have hsum := set_sum (show 1 < R.length by omega) (rowQ R 1 ++ [x])
        simp only [List.length_append, List.length_cons, List.length_nil] at hsum
        simp only [getK_some hg]
        rw [chk_pos (by simp only [bigRow]; omega), chk_pos (by omega), chk_pos (by omega), chk_pos trivial]
        exact ⟨_, _, b6, _, rfl, g3.mono (by omega), by simpa using h8, by omega⟩

/-- drawn queues are small -/
def smallQ (q : Rows) : Prop := q.length + sumL q ≤ 100

theorem part_small {R : Rows} (h1 : R.length = 8) (h2 : sumL R ≤ 30) (a m : Nat) : smallQ ((R.drop a).take m) := by
  have := sum_part R a m
  unfold smallQ
  omega

/-- numbers of 0..16, one less now and then -/
theorem pickS (n k : Int) (b : Dl20Rd) {m : Int} (h : rdOk b m) (hm : m ≤ 10000) (hn : 1 ≤ n ∧ n ≤ 100) : ∃ r b1 s b2, spec_l20Rd_pick n b = some (r, b1) ∧ spec_l20Rd_pick 14 b1 = some (s, b2) ∧ rdOk b2 (m + 2) := by
  obtain ⟨r, b1, e1, k1, k2, k3⟩ := pickE n b h (by omega) (by omega)
  obtain ⟨s, b2, e2, l1, l2, l3⟩ := pickE 14 b1 k3 (by omega) (by omega)
  exact ⟨r, b1, s, b2, e1, e2, l3.mono (by omega)⟩

theorem codeQ {code : List Int} (hc : ∀ x ∈ code, 0 ≤ x ∧ x ≤ 255) (n : Int) (hn : 0 ≤ n) : ∃ b a m b' R, spec_l20Open code = some b ∧ spec_l20Queues n b = some (a, m, b', R) ∧ rdOk b' 100 ∧ smallQ ((R.drop a).take m) := by
  obtain ⟨b, e, hb⟩ := openE code hc
  obtain ⟨a, m, b', R, e2, k1, k2, k3⟩ := drawQ_ok n hn b hb
  exact ⟨b, a, m, b', R, e, e2, k1, part_small k2 k3 a m⟩

theorem drawAdd_ok {code : List Int} (hc : ∀ x ∈ code, 0 ≤ x ∧ x ≤ 255) : ∃ a m t p R, spec_DrawReadyAdd code = some (a, m, t, p, R) ∧ smallQ ((R.drop a).take m) := by
  obtain ⟨b, a, m, b', R, e1, e2, h1, h2⟩ := codeQ hc 12 (by omega)
  obtain ⟨r4, b4, r5, b5, e4, e5, h5⟩ := pickS 17 0 b' h1 (by omega) (by omega)
  obtain ⟨r6, b6, r7, b7, e6, e7, h7⟩ := pickS 9 0 b5 h5 (by omega) (by omega)
  unfold spec_DrawReadyAdd spec_DrawReadyAddK
  simp only [e1, e2, e4, e5, e6, e7, B7]
  exact ⟨a, m, _, _, R, rfl, h2⟩

theorem drawTurn_ok {code : List Int} (hc : ∀ x ∈ code, 0 ≤ x ∧ x ≤ 255) : ∃ a m R, spec_DrawReadyTurn code = some (a, m, R) ∧ smallQ ((R.drop a).take m) := by
  obtain ⟨b, a, m, b', R, e1, e2, h1, h2⟩ := codeQ hc 9 (by omega)
  unfold spec_DrawReadyTurn spec_DrawReadyTurnK
  simp only [e1, e2, B7]
  exact ⟨a, m, R, rfl, h2⟩

theorem drawWait_ok {code : List Int} (hc : ∀ x ∈ code, 0 ≤ x ∧ x ≤ 255) : ∃ a m R, spec_DrawLongestWait code = some (a, m, R) ∧ smallQ ((R.drop a).take m) := by
  obtain ⟨b, a, m, b', R, e1, e2, h1, h2⟩ := codeQ hc 9 (by omega)
  unfold spec_DrawLongestWait spec_DrawLongestWaitK
  simp only [e1, e2, B7]
  exact ⟨a, m, R, rfl, h2⟩

theorem drawRemove_ok {code : List Int} (hc : ∀ x ∈ code, 0 ≤ x ∧ x ≤ 255) : ∃ a m t R, spec_DrawReadyRemove code = some (a, m, t, R) ∧ smallQ ((R.drop a).take m) := by
  obtain ⟨b, a, m, b', R, e1, e2, h1, h2⟩ := codeQ hc 12 (by omega)
  obtain ⟨r, b2, e3, _, _, _⟩ := pickE 18 b' h1 (by omega) (by omega)
  unfold spec_DrawReadyRemove spec_DrawReadyRemoveK spec_DrawReadyPrio spec_DrawReadyPrioK
  simp only [e1, e2, e3, B7]
  exact ⟨a, m, _, R, rfl, h2⟩

theorem drawRun_ok {code : List Int} (hc : ∀ x ∈ code, 0 ≤ x ∧ x ≤ 255) : ∃ a m t R, spec_DrawRunTurns code = some (a, m, t, R) ∧ smallQ ((R.drop a).take m) := by
  obtain ⟨b, a, m, b', R, e1, e2, h1, h2⟩ := codeQ hc 12 (by omega)
  obtain ⟨r, b2, e3, _, _, h3⟩ := pickE 30 b' h1 (by omega) (by omega)
  obtain ⟨s, b4, e4, s1, s2, _⟩ := pickE 7 b2 h3 (by omega) (by omega)
  unfold spec_DrawRunTurns spec_DrawRunTurnsK
  simp only [e1, e2, e3, e4, B7]
  obtain ⟨x, hx, ex⟩ := getE [(0 : Int), 0, 0, 0, 1, 2, 3] s1 (by simpa using s2) (fun v7 => nnK v7 fun i8 => getK [r, (200 : Int), -1, 201] i8 fun v9 => some (a, m, v9, R))
  rw [ex]
  have hx2 : 0 ≤ x ∧ x < 4 := by simp at hx; omega
  obtain ⟨y, _, ey⟩ := getE [r, (200 : Int), -1, 201] hx2.1 (by simpa using hx2.2) (fun v9 => some (a, m, v9, R))
  rw [ey]
  exact ⟨a, m, y, R, rfl, h2⟩

end Go.Ev
