/-
  What is drawn of quotas; the laws of quotas, in plain Lean.
-/
import Derived.Test.YtbedpooicdikjaaLawQuota
namespace Go.Ev
set_option linter.unusedVariables false
set_option linter.unusedSimpArgs false
set_option maxRecDepth 100000
set_option synthInstance.maxSize 2000
set_option synthInstance.maxHeartbeats 400000

/-! ### draws -/

/-- a reader: bytes, no more than 2000, and how often it was asked -/
def rdOk (b : Dl20Rd) (m : Int) : Prop := b.1.length ≤ 2000 ∧ (∀ x ∈ b.1, 0 ≤ x ∧ x ≤ 255) ∧ 0 ≤ b.2.1 ∧ b.2.1 ≤ m

theorem wrapU {x : Int} (h : 0 ≤ x) (h1 : x < 18446744073709551616) : IntKind.wrap .u64 x = x := by
  simp [IntKind.wrap, IntKind.bits, IntKind.signed]
  omega

theorem draw_ok (n : Int) (b : Dl20Rd) {m : Int} (h : rdOk b m) (hm : m ≤ 1000000000) (hn : 1 ≤ n) : ∃ r, spec_l20Rd_pick n b = some (r, (b.1, b.2.1 + 1, ())) ∧ 0 ≤ r ∧ r < n := by
  obtain ⟨h1, h2, h3, h4⟩ := h
  unfold spec_l20Rd_pick spec_l20Rd_pickK
  have e0 : decide (n < 1) = false := decide_eq_false (by omega)
  simp only [e0, Bool.not_false, cond_true]
  rw [wrap64 (n := b.2.1 + 1) (by omega) (by omega), wrap64 (n := b.2.1 + 1 - 1) (by omega) (by omega), show b.2.1 + 1 - 1 = b.2.1 from by omega]
  by_cases hz : (b.1.length : Int) = 0
  · simp [hz]; omega
  · have e1 : ((b.1.length : Int) == 0) = false := by simpa using hz
    simp only [e1, cond_false]
    by_cases hlt : b.2.1 < (b.1.length : Int)
    · have hl : b.2.1.toNat < b.1.length := by omega
      have hv := h2 b.1[b.2.1.toNat] (List.getElem_mem hl)
      simp only [hlt, decide_true, cond_true, nnK_pos h3]
      rw [getK_lt hl, chk_pos (by omega), wrap64 (n := b.1[b.2.1.toNat]) (by omega) (by omega), Int.tmod_eq_emod_of_nonneg (by omega)]
      exact ⟨_, rfl, Int.emod_nonneg _ (by omega), Int.emod_lt_of_pos _ (by omega)⟩
    · simp only [hlt, decide_false, cond_false]
      have hp : (0 : Int) < (b.1.length : Int) := by omega
      rw [chk_pos hz, Int.tmod_eq_emod_of_nonneg (a := b.2.1) h3]
      have g1 := Int.emod_nonneg b.2.1 hz
      have g2 := Int.emod_lt_of_pos b.2.1 hp
      rw [nnK_pos g1, getK_lt (show (b.2.1 % (b.1.length : Int)).toNat < b.1.length by omega), chk_pos hz, wrap64 (n := b.2.1 * 7) (by omega) (by omega), wrap64 (n := b.2.1 * 7 + 3) (by omega) (by omega), Int.tmod_eq_emod_of_nonneg (a := b.2.1 * 7 + 3) (by omega)]
      have g3 := Int.emod_nonneg (b.2.1 * 7 + 3) hz
      have g4 := Int.emod_lt_of_pos (b.2.1 * 7 + 3) hp
      rw [nnK_pos g3, getK_lt (show ((b.2.1 * 7 + 3) % (b.1.length : Int)).toNat < b.1.length by omega), chk_pos hz, chk_pos (show n ≠ 0 by omega)]
      have hv := h2 _ (List.getElem_mem (show (b.2.1 % (b.1.length : Int)).toNat < b.1.length by omega))
      have hw := h2 _ (List.getElem_mem (show ((b.2.1 * 7 + 3) % (b.1.length : Int)).toNat < b.1.length by omega))
      generalize b.1[(b.2.1 % (b.1.length : Int)).toNat]'(by omega) = v at hv
      generalize b.1[((b.2.1 * 7 + 3) % (b.1.length : Int)).toNat]'(by omega) = w at hw
      have hq1 : 0 ≤ Int.tdiv b.2.1 (b.1.length : Int) := by rw [Int.tdiv_eq_ediv_of_nonneg h3]; exact Int.ediv_nonneg h3 (by omega)
      have hq2 : Int.tdiv b.2.1 (b.1.length : Int) ≤ b.2.1 := by rw [Int.tdiv_eq_ediv_of_nonneg h3]; exact Int.ediv_le_self _ h3
      generalize Int.tdiv b.2.1 (b.1.length : Int) = q at hq1 hq2
      rw [wrap64 (n := v) (by omega) (by omega), wrap64 (n := v * 131) (by omega) (by omega), wrap64 (n := w) (by omega) (by omega), wrap64 (n := w * 1117) (by omega) (by omega), wrap64 (n := v * 131 + w * 1117) (by omega) (by omega), wrap64 (n := b.2.1 * 29) (by omega) (by omega),
        wrap64 (n := v * 131 + w * 1117 + b.2.1 * 29) (by omega) (by omega), wrap64 (n := q) (by omega) (by omega), wrap64 (n := q * 53) (by omega) (by omega), wrap64 (n := v * 131 + w * 1117 + b.2.1 * 29 + q * 53) (by omega) (by omega)]
      generalize hX : v * 131 + w * 1117 + b.2.1 * 29 + q * 53 = X
      have hX0 : 0 ≤ X ∧ X < 1000000000000 := by omega
      have hY : Int.tdiv X 64 = X / 64 := Int.tdiv_eq_ediv_of_nonneg hX0.1
      rw [hY, wrap64 (n := X / 64) (by omega) (by omega)]
      have hxor : (BitVec.ofInt 64 X ^^^ BitVec.ofInt 64 (X / 64)).toNat < 1099511627776 := by
        rw [BitVec.toNat_xor]
        have small : ∀ z : Int, 0 ≤ z → z < 1000000000000 → (BitVec.ofInt 64 z).toNat < 2 ^ 40 := fun z h0 h1 => by
          rw [BitVec.toNat_ofInt, Int.emod_eq_of_lt h0 (by show z < ((2 ^ 64 : Nat) : Int); omega)]
          omega
        exact Nat.xor_lt_two_pow (n := 40) (small X hX0.1 hX0.2) (small (X / 64) (by omega) (by omega))
      rw [wrap64 (by omega) (by omega), Int.tmod_eq_emod_of_nonneg (by omega)]
      exact ⟨_, rfl, Int.emod_nonneg _ (by omega), Int.emod_lt_of_pos _ (by omega)⟩

theorem rdOk.mono {b : Dl20Rd} {m m' : Int} (h : rdOk b m) (hm : m ≤ m') : rdOk b m' := ⟨h.1, h.2.1, h.2.2.1, Int.le_trans h.2.2.2 hm⟩

theorem pickE (n : Int) (b : Dl20Rd) {m : Int} (h : rdOk b m) (hm : m ≤ 1000000) (hn : 1 ≤ n) : ∃ r b', spec_l20Rd_pick n b = some (r, b') ∧ 0 ≤ r ∧ r < n ∧ rdOk b' (m + 1) := by
  obtain ⟨r, h1, h2, h3⟩ := draw_ok n b h (by omega) hn
  exact ⟨r, _, h1, h2, h3, h.1, h.2.1, by have := h.2.2.1; show 0 ≤ b.2.1 + 1; omega, by have := h.2.2.2; show b.2.1 + 1 ≤ m + 1; omega⟩

theorem oddE (n : Int) (b : Dl20Rd) {m : Int} (h : rdOk b m) (hm : m ≤ 1000000) (hn : 1 ≤ n) : ∃ c b', spec_l20Rd_odd n b = some (c, b') ∧ rdOk b' (m + 1) := by
  obtain ⟨r, b', h1, h2, h3, h4⟩ := pickE n b h hm hn
  have hd : decide (n > 0) = true := decide_eq_true (by omega)
  refine ⟨r == IntKind.wrap .i64 (n - 1), b', ?_, h4⟩
  simp only [spec_l20Rd_odd, spec_l20Rd_oddK, hd, cond_true, h1, some_bind']

theorem openE (code : List Int) (hc : ∀ x ∈ code, 0 ≤ x ∧ x ≤ 255) : ∃ b, spec_l20Open code = some b ∧ rdOk b 0 := by
  unfold spec_l20Open spec_l20OpenK
  by_cases h : ((code.length : Int) > 2000)
  · simp only [h, decide_true, cond_true]
    rw [chk_pos (by omega)]
    exact ⟨_, rfl, by simp; omega, fun x hx => hc x (List.mem_of_mem_take hx), by simp, by simp⟩
  · simp only [h, decide_false, cond_false]
    exact ⟨_, rfl, by show code.length ≤ 2000; omega, hc, by simp, by simp⟩

/-- a number of a row of so many: what is there -/
theorem getE {γ α : Type} (xs : List α) {r : Int} (h0 : 0 ≤ r) (h1 : r < (xs.length : Int)) (K : α → Option γ) : ∃ x, x ∈ xs ∧ (nnK r fun i => getK xs i K) = K x := by
  rw [nnK_pos h0, getK_lt (show r.toNat < xs.length by omega)]
  exact ⟨_, List.getElem_mem _, rfl⟩


/-! ### quotas, upwards -/

def plusU (a : Int) (q : DQuota) : DQuota := (q.1, q.2.1, q.2.2.1 + a, ())

def dn (b : List DQuota) : Prop := ∀ (i : Nat) (q : DQuota), b[i]? = some q → -1 ≤ q.1 ∧ q.1 ≤ (i : Int) - 1

theorem dn_of {xs : List DQuota} (h : qok xs = true) : dn xs := fun i q hq => by have := qok_get h hq; omega

theorem dn_set {b : List DQuota} (h : dn b) {i : Nat} {q : DQuota} (hq : b[i]? = some q) (a : Int) : dn (b.set i (plusU a q)) := by
  intro j r hr
  rw [List.getElem?_set] at hr
  split at hr
  · rename_i e
    subst e
    split at hr
    · cases hr; exact h i q hq
    · cases hr
  · exact h j r hr

theorem addUp_step (a : Int) {f : Nat} {b : List DQuota} {n : Int} {q : DQuota} (h0 : 0 ≤ n) (hq : b[n.toNat]? = some q) : addUp a (f + 1) b n = addUp a f (b.set n.toNat (plusU a q)) q.1 := by
  simp [addUp, h0, List.getD, hq, plusU]

theorem get_ex {b : List DQuota} {n : Int} (h0 : 0 ≤ n) (hl : n < (b.length : Int)) : ∃ q, b[n.toNat]? = some q := ⟨_, List.getElem?_eq_getElem (show n.toNat < b.length by omega)⟩

theorem addUp_comm (a : Int) : ∀ (f : Nat) (b : List DQuota) (n : Int) (j : Nat) (x : DQuota), dn b → n < (b.length : Int) → n < (j : Int) → addUp a f (b.set j x) n = (addUp a f b n).set j x
  | 0, _, _, _, _, _, _, _ => rfl
  | f + 1, b, n, j, x, hd, hl, hj => by
    by_cases h0 : 0 ≤ n
    · obtain ⟨q, hq⟩ := get_ex h0 hl
      have hne : j ≠ n.toNat := by omega
      have hq' : (b.set j x)[n.toNat]? = some q := by rw [List.getElem?_set_ne hne]; exact hq
      have := hd _ _ hq
      rw [addUp_step a h0 hq, addUp_step a h0 hq', List.set_comm _ _ hne, addUp_comm a f _ q.1 j x (dn_set hd hq a) (by simp; omega) (by omega)]
    · rw [addUp_neg a _ h0, addUp_neg a _ h0]

theorem addUp_top (a : Int) {f : Nat} {b : List DQuota} {n : Int} {q : DQuota} (hd : dn b) (h0 : 0 ≤ n) (hq : b[n.toNat]? = some q) : addUp a (f + 1) b n = (addUp a f b q.1).set n.toNat (plusU a q) := by
  have := hd _ _ hq
  have := get_lt hq
  rw [addUp_step a h0 hq, addUp_comm a f b q.1 n.toNat _ hd (by omega) (by omega)]

theorem addUp_get_gt (a : Int) : ∀ (f : Nat) (b : List DQuota) (n : Int) (j : Nat), dn b → n < (b.length : Int) → n < (j : Int) → (addUp a f b n)[j]? = b[j]?
  | 0, _, _, _, _, _, _ => rfl
  | f + 1, b, n, j, hd, hl, hj => by
    by_cases h0 : 0 ≤ n
    · obtain ⟨q, hq⟩ := get_ex h0 hl
      have := hd _ _ hq
      rw [addUp_top a hd h0 hq, List.getElem?_set_ne (by omega), addUp_get_gt a f b q.1 j hd (by omega) (by omega)]
    · rw [addUp_neg a _ h0]

theorem dn_addUp (a : Int) : ∀ (f : Nat) (b : List DQuota) (n : Int), dn b → n < (b.length : Int) → dn (addUp a f b n)
  | 0, _, _, h, _ => h
  | f + 1, b, n, hd, hl => by
    by_cases h0 : 0 ≤ n
    · obtain ⟨q, hq⟩ := get_ex h0 hl
      have := hd _ _ hq
      rw [addUp_step a h0 hq]
      exact dn_addUp a f _ _ (dn_set hd hq a) (by simp; omega)
    · rw [addUp_neg a _ h0]; exact hd

theorem addUp_back (a : Int) : ∀ (f : Nat) (b : List DQuota) (n : Int), dn b → n < (b.length : Int) → addUp (-a) f (addUp a f b n) n = b
  | 0, _, _, _, _ => rfl
  | f + 1, b, n, hd, hl => by
    by_cases h0 : 0 ≤ n
    · obtain ⟨q, hq⟩ := get_ex h0 hl
      have hp := hd _ _ hq
      have hlt := get_lt hq
      have hZ := dn_addUp a f b q.1 hd (by omega)
      have hZl := addUp_length a f b q.1
      have hZn : (addUp a f b q.1)[n.toNat]? = some q := by rw [addUp_get_gt a f b q.1 _ hd (by omega) (by omega)]; exact hq
      rw [addUp_top a hd h0 hq]
      have hY := dn_set hZ hZn a
      have hYn : ((addUp a f b q.1).set n.toNat (plusU a q))[n.toNat]? = some (plusU a q) := List.getElem?_set_self (by omega)
      rw [addUp_top (-a) hY h0 hYn, show (plusU a q).1 = q.1 from rfl, addUp_comm (-a) f _ _ n.toNat _ hZ (show q.1 < _ by omega) (show q.1 < _ by omega)]
      have := addUp_back a f b q.1 hd (by omega)
      rw [this, List.set_set]
      have : plusU (-a) (plusU a q) = q := by
        obtain ⟨q1, q2, q3, ⟨⟩⟩ := q
        show (q1, q2, q3 + a + -a, ()) = (q1, q2, q3, ())
        rw [show q3 + a + -a = q3 by omega]
      rw [this, set_self hq]
    · rw [addUp_neg a _ h0, addUp_neg (-a) _ h0]

theorem partsOf_set (a : Int) (k : Int) : ∀ (b : List DQuota) (i : Nat) (q : DQuota), b[i]? = some q → partsOf (b.set i (plusU a q)) k = partsOf b k + (if q.1 = k then a else 0)
  | [], i, q, h => by simp at h
  | x :: b, 0, q, h => by
    simp only [List.getElem?_cons_zero, Option.some.injEq] at h
    subst h
    simp only [List.set_cons_zero, partsOf, plusU]
    split <;> omega
  | x :: b, i + 1, q, h => by
    simp only [List.getElem?_cons_succ] at h
    simp only [List.set_cons_succ, partsOf, partsOf_set a k b i q h]
    omega

theorem partsOf_addUp (a : Int) (k : Int) : ∀ (f : Nat) (b : List DQuota) (n : Int), dn b → n < (b.length : Int) → n ≤ k → partsOf (addUp a f b n) k = partsOf b k
  | 0, _, _, _, _, _ => rfl
  | f + 1, b, n, hd, hl, hk => by
    by_cases h0 : 0 ≤ n
    · obtain ⟨q, hq⟩ := get_ex h0 hl
      have hp := hd _ _ hq
      rw [addUp_step a h0 hq, partsOf_addUp a k f _ _ (dn_set hd hq a) (by simp; omega) (by omega), partsOf_set a k b _ q hq, if_neg (by omega)]
      omega
    · rw [addUp_neg a _ h0]

theorem roomUp_step {f : Nat} {b : List DQuota} {n r : Int} {q : DQuota} (h0 : 0 ≤ n) (hq : b[n.toNat]? = some q) : roomUp b (f + 1) n r = roomUp b f q.1 (less (q.2.1 - q.2.2.1) r) := by
  simp [roomUp, h0, List.getD, hq]

theorem less_le (a b : Int) : less a b ≤ a ∧ less a b ≤ b := by unfold less; split <;> omega
theorem less_eq (a b : Int) : less a b = a ∨ less a b = b := by unfold less; split <;> simp

theorem roomUp_le : ∀ (f : Nat) (b : List DQuota) (n r : Int), roomUp b f n r ≤ r
  | 0, _, _, r => Int.le_refl r
  | f + 1, b, n, r => by
    simp only [roomUp]
    split
    · exact Int.le_trans (roomUp_le f b _ _) (less_le _ _).2
    · exact Int.le_refl r

theorem roomUp_mono : ∀ (f : Nat) (b : List DQuota) (n r r' : Int), r ≤ r' → roomUp b f n r ≤ roomUp b f n r'
  | 0, _, _, _, _, h => h
  | f + 1, b, n, r, r', h => by
    simp only [roomUp]
    split
    · exact roomUp_mono f b _ _ _ (by unfold less; split <;> split <;> omega)
    · exact h

theorem roomUp_set : ∀ (f : Nat) (b : List DQuota) (n r : Int) (j : Nat) (x : DQuota), dn b → n < (b.length : Int) → n < (j : Int) → roomUp (b.set j x) f n r = roomUp b f n r
  | 0, _, _, _, _, _, _, _, _ => rfl
  | f + 1, b, n, r, j, x, hd, hl, hj => by
    by_cases h0 : 0 ≤ n
    · obtain ⟨q, hq⟩ := get_ex h0 hl
      have hp := hd _ _ hq
      have hq' : (b.set j x)[n.toNat]? = some q := by rw [List.getElem?_set_ne (by omega)]; exact hq
      rw [roomUp_step h0 hq, roomUp_step h0 hq', roomUp_set f b q.1 _ j x hd (by omega) (by omega)]
    · rw [roomUp_neg _ h0, roomUp_neg _ h0]

theorem roomUp_fuel : ∀ (f : Nat) (b : List DQuota) (n r : Int), dn b → n < (b.length : Int) → n < (f : Int) → roomUp b (f + 1) n r = roomUp b f n r
  | 0, b, n, r, _, _, hf => by rw [roomUp_neg b (show ¬ 0 ≤ n by omega), roomUp_neg b (show ¬ 0 ≤ n by omega)]
  | f + 1, b, n, r, hd, hl, hf => by
    by_cases h0 : 0 ≤ n
    · obtain ⟨q, hq⟩ := get_ex h0 hl
      have hp := hd _ _ hq
      rw [roomUp_step h0 hq, roomUp_fuel f b q.1 _ hd (by omega) (by omega), roomUp_step h0 hq]
    · rw [roomUp_neg b h0, roomUp_neg b h0]

theorem roomUp_addUp (a : Int) : ∀ (f : Nat) (b : List DQuota) (n r : Int), dn b → n < (b.length : Int) → roomUp (addUp a f b n) f n (r - a) = roomUp b f n r - a
  | 0, _, _, _, _, _ => rfl
  | f + 1, b, n, r, hd, hl => by
    by_cases h0 : 0 ≤ n
    · obtain ⟨q, hq⟩ := get_ex h0 hl
      have hp := hd _ _ hq
      have hlt := get_lt hq
      have hZ := dn_addUp a f b q.1 hd (by omega)
      have hZl := addUp_length a f b q.1
      rw [addUp_top a hd h0 hq]
      have hYn : ((addUp a f b q.1).set n.toNat (plusU a q))[n.toNat]? = some (plusU a q) := List.getElem?_set_self (by omega)
      rw [roomUp_step h0 hYn, roomUp_step h0 hq, show (plusU a q).1 = q.1 from rfl, roomUp_set f _ q.1 _ n.toNat _ hZ (by omega) (by omega)]
      have : less ((plusU a q).2.1 - (plusU a q).2.2.1) (r - a) = less (q.2.1 - q.2.2.1) r - a := by
        simp only [plusU]
        unfold less
        split <;> split <;> omega
      rw [this, roomUp_addUp a f b q.1 _ hd (by omega)]
    · rw [addUp_neg a _ h0, roomUp_neg b h0, roomUp_neg b h0]

/-! ### valid quotas -/

theorem valid_iff {xs : List DQuota} : validQ xs = true ↔ xs.length ≤ 16 ∧ ∀ (i : Nat) (q : DQuota), xs[i]? = some q → (-1 ≤ q.1 ∧ q.1 ≤ (i : Int) - 1 ∧ 0 ≤ q.2.1 ∧ q.2.1 ≤ 10000 ∧ 0 ≤ q.2.2.1 ∧ q.2.2.1 ≤ q.2.1) ∧ partsOf xs (i : Int) ≤ q.2.2.1 := by
  have e1 := all_zip0 (p := qg) (r := xs)
  have e2 := all_zip0 (p := fun i (q : DQuota) => decide (partsOf xs (i : Int) ≤ q.2.2.1)) (r := xs)
  simp only [validQ, Bool.and_eq_true, decide_eq_true_eq]
  constructor
  · rintro ⟨h1, h2, h3⟩
    refine ⟨h3, fun i q hq => ⟨qok_get h1 hq, ?_⟩⟩
    have := e2.1 h2 i q hq
    simpa using this
  · rintro ⟨h3, h⟩
    refine ⟨e1.2 fun i q hq => ?_, e2.2 fun i q hq => ?_, h3⟩
    · have := (h i q hq).1
      simp only [qg, Bool.and_eq_true, decide_eq_true_eq]
      omega
    · simpa using (h i q hq).2

def pend (b : List DQuota) (n a : Int) : Prop := ∀ (i : Nat) (q : DQuota), b[i]? = some q → (-1 ≤ q.1 ∧ q.1 ≤ (i : Int) - 1 ∧ 0 ≤ q.2.1 ∧ q.2.1 ≤ 10000 ∧ 0 ≤ q.2.2.1 ∧ q.2.2.1 ≤ q.2.1) ∧ partsOf b (i : Int) ≤ q.2.2.1 + (if (i : Int) = n then a else 0)

theorem pend_dn {b : List DQuota} {n a : Int} (h : pend b n a) : dn b := fun i q hq => ⟨(h i q hq).1.1, (h i q hq).1.2.1⟩

theorem pend_mem {b : List DQuota} {n a : Int} (h : pend b n a) : ∀ q ∈ b, 0 ≤ q.2.2.1 ∧ q.2.2.1 ≤ 10000 := fun q hq => by
  obtain ⟨i, hi⟩ := List.getElem?_of_mem hq
  have := (h i q hi).1
  omega

theorem addUp_pend (a : Int) : ∀ (f : Nat) (b : List DQuota) (n r : Int), pend b n a → n < (b.length : Int) → n < (f : Int) → a ≤ roomUp b f n r → pend (addUp a f b n) (-1) a
  | 0, b, n, r, h, _, hf, _ => fun i q hq => by
    have := h i q hq
    rw [if_neg (by omega)] at this
    rw [if_neg (by omega)]
    exact this
  | f + 1, b, n, r, h, hl, hf, hr => by
    by_cases h0 : 0 ≤ n
    · obtain ⟨q, hq⟩ := get_ex h0 hl
      have hd := pend_dn h
      have hp := hd _ _ hq
      have hlt := get_lt hq
      rw [addUp_step a h0 hq]
      rw [roomUp_step h0 hq] at hr
      have hle := Int.le_trans hr (Int.le_trans (roomUp_le f b _ _) (less_le _ _).1)
      have hn := h _ _ hq
      rw [if_pos (by omega)] at hn
      have hpb := parts_bound b ((n.toNat : Nat) : Int) (pend_mem h)
      refine addUp_pend a f _ _ (less (q.2.1 - q.2.2.1) r) ?_ (by simp; omega) (by omega) (by rw [roomUp_set f b _ _ _ _ hd (by omega) (by omega)]; exact hr)
      intro i q' hq'
      rw [partsOf_set a _ b _ q hq]
      rw [List.getElem?_set] at hq'
      split at hq'
      · rename_i e
        subst e
        try rw [if_pos hlt] at hq'
        obtain rfl := Option.some.inj hq'
        rw [if_neg (by omega), if_neg (by omega)]
        simp only [plusU]
        omega
      · rename_i e
        have hi := h i q' hq'
        rw [if_neg (show ¬ (i : Int) = n by omega)] at hi
        refine ⟨hi.1, ?_⟩
        have := hi.2
        by_cases e2 : q.1 = (i : Int)
        · rw [if_pos e2, if_pos e2.symm]; omega
        · rw [if_neg e2, if_neg (fun e => e2 e.symm)]; omega
    · rw [addUp_neg a _ h0]
      intro i q hq
      have := h i q hq
      rw [if_neg (by omega)] at this
      rw [if_neg (by omega)]
      exact this

theorem addUp_valid {xs : List DQuota} {n a : Int} (h : inside xs n = true) (hr : a ≤ roomQ xs n) (hp : 0 ≤ a ∨ ∃ q, xs[n.toNat]? = some q ∧ partsOf xs n ≤ q.2.2.1 + a) : validQ (addUp a xs.length xs n) = true := by
  have h' := h
  simp only [inside, Bool.and_eq_true, decide_eq_true_eq] at h'
  simp only [roomQ, h, cond_true] at hr
  obtain ⟨h1, h2⟩ := valid_iff.1 h'.1
  have hpd : pend xs n a := by
    intro i q hq
    have := h2 i q hq
    refine ⟨this.1, ?_⟩
    split
    · rename_i e
      rcases hp with hp | ⟨q', hq', hp⟩
      · omega
      · rw [show n.toNat = i by omega, hq] at hq'
        obtain rfl := Option.some.inj hq'
        rw [e]; exact hp
    · omega
  have := addUp_pend a xs.length xs n 10000 hpd (by omega) (by omega) hr
  refine valid_iff.2 ⟨by rw [addUp_length]; exact h1, fun i q hq => ?_⟩
  have := this i q hq
  rw [if_neg (by omega)] at this
  exact ⟨this.1, by omega⟩

theorem inside_addUp {xs : List DQuota} {n a : Int} (h : inside xs n = true) (hv : validQ (addUp a xs.length xs n) = true) : inside (addUp a xs.length xs n) n = true := by
  simp only [inside, Bool.and_eq_true, decide_eq_true_eq] at h ⊢
  rw [addUp_length]
  exact ⟨hv, h.2⟩

theorem roomUp_clip {b : List DQuota} {n : Int} {q : DQuota} (f : Nat) (h0 : 0 ≤ n) (hq : b[n.toNat]? = some q) (hc : q.2.1 - q.2.2.1 ≤ 10000) {c : Int} (hc2 : 0 ≤ c) : roomUp b (f + 1) n (10000 + c) = roomUp b (f + 1) n 10000 := by
  rw [roomUp_step h0 hq, roomUp_step h0 hq]
  have : less (q.2.1 - q.2.2.1) (10000 + c) = less (q.2.1 - q.2.2.1) 10000 := by unfold less; split <;> split <;> omega
  rw [this]

theorem inside_get {xs : List DQuota} {n : Int} (h : inside xs n = true) : 0 ≤ n ∧ n < (xs.length : Int) ∧ xs.length ≤ 16 ∧ dn xs ∧ ∃ q, xs[n.toNat]? = some q ∧ (-1 ≤ q.1 ∧ q.1 ≤ n - 1 ∧ 0 ≤ q.2.1 ∧ q.2.1 ≤ 10000 ∧ 0 ≤ q.2.2.1 ∧ q.2.2.1 ≤ q.2.1) ∧ partsOf xs n ≤ q.2.2.1 ∧ xs.getD n.toNat (0, 0, 0, ()) = q := by
  simp only [inside, Bool.and_eq_true, decide_eq_true_eq] at h
  obtain ⟨q, hq⟩ := get_ex (b := xs) h.2.1 (by omega)
  have := (valid_iff.1 h.1).2 _ _ hq
  rw [show ((n.toNat : Nat) : Int) = n by omega] at this
  exact ⟨h.2.1, by omega, (valid_iff.1 h.1).1, dn_of (validQ_ok h.1).1, q, hq, this.1, this.2, by simp [List.getD, hq]⟩

theorem roomQ_addUp {xs : List DQuota} {n a : Int} (h : inside xs n = true) (hv : validQ (addUp a xs.length xs n) = true) : roomQ (addUp a xs.length xs n) n = roomQ xs n - a := by
  obtain ⟨h0, hl, _, hd, q, hq, hb, _, _⟩ := inside_get h
  have hi := inside_addUp h hv
  obtain ⟨_, _, _, _, q', hq', hb', _, _⟩ := inside_get hi
  simp only [roomQ, h, hi, cond_true]
  rw [addUp_length]
  obtain ⟨f, hf⟩ : ∃ f, xs.length = f + 1 := ⟨xs.length - 1, by omega⟩
  rw [hf] at hq' ⊢
  have key : ∀ r, roomUp (addUp a (f + 1) xs n) (f + 1) n (r - a) = roomUp xs (f + 1) n r - a := fun r => roomUp_addUp a (f + 1) xs n r hd hl
  by_cases ha : 0 ≤ a
  · have := key (10000 + a)
    rw [show (10000 : Int) + a - a = 10000 by omega, roomUp_clip f h0 hq (by omega) ha] at this
    exact this
  · have := key 10000
    rw [show (10000 : Int) - a = 10000 + -a by omega, roomUp_clip f h0 hq' (by omega) (by omega)] at this
    exact this

theorem useQ_yes {xs : List DQuota} {n a : Int} (h : inside xs n = true) (ha : 0 ≤ a) (hr : a ≤ roomQ xs n) : useQ xs n a = (true, addUp a xs.length xs n) := by
  have : ¬ a > roomQ xs n := by omega
  simp [useQ, h, ha, this]

theorem useQ_cases (xs : List DQuota) (n a : Int) : (useQ xs n a).1 = false ∧ ((useQ xs n a).2 = [] ∨ (useQ xs n a).2 = xs) ∨ (inside xs n = true ∧ 0 ≤ a ∧ a ≤ roomQ xs n ∧ useQ xs n a = (true, addUp a xs.length xs n)) := by
  by_cases h : inside xs n = true ∧ 0 ≤ a
  · by_cases hr : a ≤ roomQ xs n
    · exact .inr ⟨h.1, h.2, hr, useQ_yes h.1 h.2 hr⟩
    · have : a > roomQ xs n := by omega
      simp [useQ, h.1, h.2, this]
  · have : (inside xs n && decide (0 ≤ a)) = false := by
      rw [Bool.and_eq_false_iff]
      by_cases hi : inside xs n = true
      · exact .inr (decide_eq_false fun ha => h ⟨hi, ha⟩)
      · exact .inl (by simpa using hi)
    simp [useQ, this]

theorem freeQ_cases (xs : List DQuota) (n a : Int) : (freeQ xs n a).1 = false ∧ ((freeQ xs n a).2 = [] ∨ (freeQ xs n a).2 = xs) ∨ (inside xs n = true ∧ 0 ≤ a ∧ partsOf xs n ≤ (xs.getD n.toNat (0, 0, 0, ())).2.2.1 - a ∧ freeQ xs n a = (true, addUp (-a) xs.length xs n)) := by
  by_cases h : inside xs n = true ∧ 0 ≤ a
  · by_cases hr : (xs.getD n.toNat (0, 0, 0, ())).2.2.1 - a < partsOf xs n
    · simp only [freeQ, h.1, h.2, decide_true, Bool.and_self, cond_true, hr, if_true]
      exact .inl ⟨trivial, .inr trivial⟩
    · simp only [freeQ, h.1, h.2, decide_true, Bool.and_self, cond_true, hr, if_false]
      exact .inr ⟨trivial, trivial, by omega, trivial⟩
  · have : (inside xs n && decide (0 ≤ a)) = false := by
      rw [Bool.and_eq_false_iff]
      by_cases hi : inside xs n = true
      · exact .inr (decide_eq_false fun ha => h ⟨hi, ha⟩)
      · exact .inl (by simpa using hi)
    simp [freeQ, this]

/-- using, and then freeing -/
theorem use_free {xs : List DQuota} {n a : Int} (h : inside xs n = true) (ha : 0 ≤ a) (hr : a ≤ roomQ xs n) : validQ (addUp a xs.length xs n) = true ∧ freeQ (addUp a xs.length xs n) n a = (true, xs) := by
  have hv := addUp_valid h hr (.inl ha)
  have hi := inside_addUp h hv
  obtain ⟨h0, hl, _, hd, q, hq, hb, hpq, _⟩ := inside_get h
  obtain ⟨_, _, _, _, q', hq', _, _, hg'⟩ := inside_get hi
  refine ⟨hv, ?_⟩
  obtain ⟨f, hf⟩ : ∃ f, xs.length = f + 1 := ⟨xs.length - 1, by omega⟩
  have hqq : q' = plusU a q := by
    rw [hf, addUp_top a hd h0 hq, List.getElem?_set_self (by rw [addUp_length]; omega)] at hq'
    exact (Option.some.inj hq').symm
  have hpp := partsOf_addUp a n xs.length xs n hd hl (Int.le_refl n)
  have : ¬ (((addUp a xs.length xs n).getD n.toNat (0, 0, 0, ())).2.2.1 - a < partsOf (addUp a xs.length xs n) n) := by
    rw [hg', hpp, hqq]
    simp only [plusU]
    omega
  simp only [freeQ, hi, ha, decide_true, Bool.and_self, cond_true, this, if_false, addUp_length]
  rw [addUp_back a xs.length xs n hd hl]

/-- freeing, and then using -/
theorem free_use {xs : List DQuota} {n a : Int} (h : inside xs n = true) (ha : 0 ≤ a) (hp : partsOf xs n ≤ (xs.getD n.toNat (0, 0, 0, ())).2.2.1 - a) : validQ (addUp (-a) xs.length xs n) = true ∧ useQ (addUp (-a) xs.length xs n) n a = (true, xs) ∧
    roomQ (addUp (-a) xs.length xs n) n = roomQ xs n + a ∧ ∃ q, (addUp (-a) xs.length xs n)[n.toNat]? = some q ∧ partsOf xs n ≤ q.2.2.1 := by
  obtain ⟨h0, hl, _, hd, q, hq, hb, hpq, hg⟩ := inside_get h
  rw [hg] at hp
  have hr := roomQ_in h
  have hv := addUp_valid (a := -a) h (by omega) (.inr ⟨q, hq, by omega⟩)
  have hi := inside_addUp h hv
  have hrr := roomQ_addUp h hv
  obtain ⟨f, hf⟩ : ∃ f, xs.length = f + 1 := ⟨xs.length - 1, by omega⟩
  refine ⟨hv, ?_, by omega, plusU (-a) q, ?_, by simp only [plusU]; omega⟩
  · rw [useQ_yes hi ha (by omega), addUp_length]
    have := addUp_back (-a) xs.length xs n hd hl
    rw [Int.neg_neg] at this
    rw [this]
  · rw [hf, addUp_top (-a) hd h0 hq, List.getElem?_set_self (by rw [addUp_length]; omega)]

/-! ### a part of quotas; one that is exceeded -/

theorem partsOf_take (k : Int) : ∀ (xs : List DQuota) (m : Nat), (∀ q ∈ xs, 0 ≤ q.2.2.1 ∧ q.2.2.1 ≤ 10000) → partsOf (xs.take m) k ≤ partsOf xs k
  | [], m, _ => by simp
  | q :: r, 0, h => by
    have := (parts_bound (q :: r) k h).1
    simpa [partsOf] using this
  | q :: r, m + 1, h => by
    have := partsOf_take k r m fun q hq => h q (List.mem_cons_of_mem _ hq)
    simp only [List.take_succ_cons, partsOf]
    omega

theorem valid_take {xs : List DQuota} (h : validQ xs = true) (m : Nat) : validQ (xs.take m) = true := by
  obtain ⟨h1, h2⟩ := valid_iff.1 h
  refine valid_iff.2 ⟨by simp; omega, fun i q hq => ?_⟩
  have hq' : xs[i]? = some q := by
    rw [List.getElem?_take] at hq
    split at hq
    · exact hq
    · cases hq
  have := h2 i q hq'
  exact ⟨this.1, Int.le_trans (partsOf_take _ xs m (qok_mem (validQ_ok h).1)) this.2⟩

theorem valid_bad (xs : List DQuota) : validQ (xs ++ [((-1 : Int), (5 : Int), (6 : Int), ())]) = false := by
  cases hv : validQ (xs ++ [((-1 : Int), (5 : Int), (6 : Int), ())]) with
  | false => rfl
  | true =>
    have := ((valid_iff.1 hv).2 xs.length (-1, 5, 6, ()) (by simp)).1
    simp at this


/-! ### what is drawn -/

def fresh (s : List DQuota) : Prop := ∀ (i : Nat) (q : DQuota), s[i]? = some q → -1 ≤ q.1 ∧ q.1 ≤ (i : Int) - 1 ∧ 0 ≤ q.2.1 ∧ q.2.1 ≤ 10000 ∧ q.2.2.1 = 0

theorem fresh_parts (k : Int) : ∀ (s : List DQuota), (∀ q ∈ s, q.2.2.1 = 0) → partsOf s k = 0
  | [], _ => rfl
  | q :: r, h => by
    have h1 := h q List.mem_cons_self
    have h2 := fresh_parts k r fun q hq => h q (List.mem_cons_of_mem _ hq)
    simp only [partsOf, h1, h2]
    split <;> rfl

theorem fresh_valid {s : List DQuota} (h : fresh s) (hl : s.length ≤ 16) : validQ s = true := by
  refine valid_iff.2 ⟨hl, fun i q hq => ?_⟩
  have := h i q hq
  rw [fresh_parts _ s fun q hq => by obtain ⟨i, hi⟩ := List.getElem?_of_mem hq; exact (h i q hi).2.2.2.2]
  omega

theorem draw_l0 (n : Int) : ∀ (f k : Nat) (b : Dl20Rd) (s : List DQuota), k + f = 7 → s.length = k → fresh s → rdOk b (1000 - 4 * (f : Int)) →
    ∃ b' s', loopF spec_l20Quotas_l0 (n, (k : Int), b, s, ()) = some (n, b', s', ()) ∧ rdOk b' 1001 ∧ fresh s' ∧ 1 ≤ s'.length ∧ s'.length ≤ 7 := by
  intro f
  induction f with
  | zero =>
    intro k b s hk hl hs hb
    obtain ⟨r, b', d, h0, h1, hb'⟩ := pickE 7 b hb (by omega) (by omega)
    have hd : decide ((k : Int) < IntKind.wrap .i64 (1 + r)) = false := by
      rw [wrap64 (by omega) (by omega)]; exact decide_eq_false (by omega)
    refine ⟨b', s, loopF_inr ?_, hb'.mono (by omega), hs, by omega, by omega⟩
    simp only [spec_l20Quotas_l0, spec_l20Quotas_l0K, d, some_bind', hd, cond_false]
  | succ f ih =>
    intro k b s hk hl hs hb
    obtain ⟨r, b1, d, h0, h1, hb1⟩ := pickE 7 b hb (by omega) (by omega)
    by_cases hc : (k : Int) < 1 + r
    · have hd : decide ((k : Int) < IntKind.wrap .i64 (1 + r)) = true := by
        rw [wrap64 (by omega) (by omega)]; exact decide_eq_true hc
      obtain ⟨r2, b2, d2, h20, h21, hb2⟩ := pickE ((k : Int) + 1) b1 hb1 (by omega) (by omega)
      obtain ⟨r3, b3, d3, h30, h31, hb3⟩ := pickE 100 b2 hb2 (by omega) (by omega)
      have hst : spec_l20Quotas_l0 (n, (k : Int), b, s, ()) = some (.inl (n, ((k + 1 : Nat) : Int), b3, s ++ [(r2 - 1, 20 + r3, 0, ())], ())) := by
        simp only [spec_l20Quotas_l0, spec_l20Quotas_l0K, d, some_bind', hd, cond_true, wrapS (show k < 4611686018427387904 by omega)]
        rw [show ((k + 1 : Nat) : Int) = (k : Int) + 1 from rfl, d2]
        simp only [some_bind', d3]
        rw [chk_pos (by simp only [bigRow]; omega), wrap64 (n := r2 - 1) (by omega) (by omega), wrap64 (n := 20 + r3) (by omega) (by omega)]
      rw [loopF_inl hst]
      refine ih (k + 1) b3 _ (by omega) (by simp; omega) ?_ (hb3.mono (by omega))
      intro i q hq
      rw [List.getElem?_append] at hq
      split at hq
      · exact hs i q hq
      · rename_i hi
        have : i - s.length = 0 := by
          have := get_lt hq
          simp at this; omega
        rw [this] at hq
        simp only [List.getElem?_cons_zero, Option.some.injEq] at hq
        subst hq
        show -1 ≤ r2 - 1 ∧ r2 - 1 ≤ (i : Int) - 1 ∧ 0 ≤ 20 + r3 ∧ 20 + r3 ≤ 10000 ∧ (0 : Int) = 0
        omega
    · have hd : decide ((k : Int) < IntKind.wrap .i64 (1 + r)) = false := by
        rw [wrap64 (by omega) (by omega)]; exact decide_eq_false hc
      refine ⟨b1, s, loopF_inr ?_, hb1.mono (by omega), hs, by omega, by omega⟩
      simp only [spec_l20Quotas_l0, spec_l20Quotas_l0K, d, some_bind', hd, cond_false]

theorem useQ_keep {s : List DQuota} {n a : Int} (hv : validQ s = true) (h0 : 0 ≤ n) (h1 : n < (s.length : Int)) (ha : 0 ≤ a) : validQ (useQ s n a).2 = true ∧ (useQ s n a).2.length = s.length := by
  have hi : inside s n = true := by simp only [inside, hv, Bool.true_and, Bool.and_eq_true, decide_eq_true_eq]; omega
  rcases useQ_cases s n a with ⟨_, h | h⟩ | ⟨_, _, hr, h⟩
  · exfalso
    by_cases hr : a ≤ roomQ s n
    · rw [useQ_yes hi ha hr] at h
      have := congrArg List.length h
      simp only [addUp_length, List.length_nil] at this
      omega
    · have hg : a > roomQ s n := by omega
      have : useQ s n a = (false, s) := by simp [useQ, hi, ha, hg]
      rw [this] at h
      have := congrArg List.length h
      simp only [List.length_nil] at this
      omega
  · rw [h]; exact ⟨hv, rfl⟩
  · rw [h]; exact ⟨addUp_valid hi hr (.inl ha), addUp_length _ _ _ _⟩

theorem draw_l2 (n : Int) : ∀ (k : Nat) (b : Dl20Rd) (s : List DQuota), k ≤ 100 → validQ s = true → 1 ≤ s.length → s.length ≤ 7 → rdOk b (2000 - 4 * (k : Int)) →
    ∃ b' s', loopF spec_l20Quotas_l2 (n, (k : Int), b, s, ()) = some (n, b', s', ()) ∧ rdOk b' 2001 ∧ s'.length = s.length := by
  intro k
  induction k with
  | zero =>
    intro b s _ hv hl1 hl2 hb
    exact ⟨b, s, loopF_inr rfl, hb.mono (by omega), rfl⟩
  | succ k ih =>
    intro b s hk hv hl1 hl2 hb
    obtain ⟨r, b1, d, h0, h1, hb1⟩ := pickE (s.length : Int) b hb (by omega) (by omega)
    obtain ⟨r2, b2, d2, h20, h21, hb2⟩ := pickE 30 b1 hb1 (by omega) (by omega)
    have hu := useQ_keep hv h0 h1 h20
    have hd : decide (((k + 1 : Nat) : Int) > 0) = true := by simp
    have hst : spec_l20Quotas_l2 (n, ((k + 1 : Nat) : Int), b, s, ()) = some (.inl (n, (k : Int), b2, (useQ s r r2).2, ())) := by
      simp only [spec_l20Quotas_l2, spec_l20Quotas_l2K, hd, cond_true, d, some_bind', d2, spec_UseQuota_ok s r r2 (by omega)]
      rw [wrap64 (n := ((k + 1 : Nat) : Int) - 1) (by omega) (by omega), show ((k + 1 : Nat) : Int) - 1 = (k : Int) from by omega]
    rw [loopF_inl hst]
    obtain ⟨b', s', e1, e2, e3⟩ := ih b2 _ (by omega) hu.1 (by omega) (by omega) (hb2.mono (by omega))
    exact ⟨b', s', e1, e2, by omega⟩

theorem l20Quotas_ok (n : Int) (b : Dl20Rd) (hn : 1 ≤ n) (hb : rdOk b 10) : ∃ b' s, spec_l20Quotas n b = some (b', s) ∧ rdOk b' 3000 ∧ s.length ≤ 7 := by
  unfold spec_l20Quotas spec_l20QuotasK
  obtain ⟨b1, s1, e1, hb1, hf1, hl1, hl2⟩ := draw_l0 n 7 0 b [] (by omega) rfl (fun i q hq => by simp at hq) (hb.mono (by omega))
  obtain ⟨r, b2, d, h0, h1, hb2⟩ := pickE 8 b1 hb1 (by omega) (by omega)
  obtain ⟨m, rfl⟩ : ∃ m : Nat, r = (m : Int) := ⟨r.toNat, by omega⟩
  obtain ⟨b3, s3, e3, hb3, hl3⟩ := draw_l2 n m b2 s1 (by omega) (fresh_valid hf1 (by omega)) hl1 hl2 (hb2.mono (by omega))
  obtain ⟨c, b4, d4, hb4⟩ := oddE n b3 hb3 (by omega) hn
  have e1' : loopF spec_l20Quotas_l0 (n, 0, b, [], ()) = some (n, b1, s1, ()) := e1
  simp only [e1', some_bind', d, e3, d4]
  cases c with
  | false => exact ⟨_, _, rfl, hb4.mono (by omega), by show s3.length ≤ 7; omega⟩
  | true =>
    obtain ⟨r5, b5, d5, h50, h51, hb5⟩ := pickE (s3.length : Int) b4 hb4 (by omega) (by omega)
    obtain ⟨r6, b6, d6, h60, h61, hb6⟩ := pickE 3 b5 hb5 (by omega) (by omega)
    have hlt : r5.toNat < s3.length := by omega
    simp only [cond_true, d5, d6, some_bind']
    by_cases c1 : r6 = 0
    · obtain ⟨r7, b7, d7, h70, h71, hb7⟩ := pickE 2 b6 hb6 (by omega) (by omega)
      have : (r6 == (0 : Int)) = true := by simp [c1]
      simp only [this, cond_true, nnK_pos h50, chk_pos hlt, getK_lt hlt, d7, some_bind', nnK_pos h70]
      rw [getK_lt (show r7.toNat < 2 by omega), ]
      exact ⟨_, _, rfl, hb7.mono (by omega), by simp; omega⟩
    · have : (r6 == (0 : Int)) = false := by simp [c1]
      simp only [this, cond_false]
      cases (r6 == (1 : Int)) with
      | true =>
        simp only [cond_true, nnK_pos h50, chk_pos hlt, getK_lt hlt]
        exact ⟨_, _, rfl, hb6.mono (by omega), by simp; omega⟩
      | false =>
        simp only [cond_false, nnK_pos h50, chk_pos hlt, getK_lt hlt]
        exact ⟨_, _, rfl, hb6.mono (by omega), by simp; omega⟩

theorem DrawQuotasValid_ok (code : List Int) (hc : ∀ x ∈ code, 0 ≤ x ∧ x ≤ 255) : ∃ s, spec_DrawQuotasValid code = some s ∧ s.length ≤ 7 := by
  unfold spec_DrawQuotasValid spec_DrawQuotasValidK
  obtain ⟨b, e, hb⟩ := openE code hc
  obtain ⟨b1, s, e1, hb1, hl⟩ := l20Quotas_ok 2 b (by omega) (hb.mono (by omega))
  simp only [e, e1, some_bind']
  exact ⟨s, rfl, hl⟩

theorem DrawQuotaRoom_ok (code : List Int) (hc : ∀ x ∈ code, 0 ≤ x ∧ x ≤ 255) : ∃ n s, spec_DrawQuotaRoom code = some (n, s) ∧ s.length ≤ 7 := by
  unfold spec_DrawQuotaRoom spec_DrawQuotaRoomK
  obtain ⟨b, e, hb⟩ := openE code hc
  obtain ⟨b1, s, e1, hb1, hl⟩ := l20Quotas_ok 12 b (by omega) (hb.mono (by omega))
  obtain ⟨r2, b2, d2, _, _, hb2⟩ := pickE ((s.length : Int) + 1) b1 hb1 (by omega) (by omega)
  obtain ⟨r3, b3, d3, _, _, hb3⟩ := pickE 14 b2 hb2 (by omega) (by omega)
  simp only [e, e1, some_bind']
  rw [wrap64 (n := (s.length : Int) + 1) (by omega) (by omega), d2]
  simp only [some_bind', d3]
  exact ⟨_, s, rfl, hl⟩

theorem DrawUseQuota_ok (code : List Int) (hc : ∀ x ∈ code, 0 ≤ x ∧ x ≤ 255) : ∃ n a s, spec_DrawUseQuota code = some (n, a, s) ∧ s.length ≤ 7 := by
  unfold spec_DrawUseQuota spec_DrawUseQuotaK
  obtain ⟨b, e, hb⟩ := openE code hc
  obtain ⟨b1, s, e1, hb1, hl⟩ := l20Quotas_ok 14 b (by omega) (hb.mono (by omega))
  obtain ⟨r2, b2, d2, _, _, hb2⟩ := pickE ((s.length : Int) + 1) b1 hb1 (by omega) (by omega)
  obtain ⟨r3, b3, d3, _, _, hb3⟩ := pickE 14 b2 hb2 (by omega) (by omega)
  obtain ⟨r4, b4, d4, _, _, hb4⟩ := pickE 60 b3 hb3 (by omega) (by omega)
  obtain ⟨r5, b5, d5, h50, h51, hb5⟩ := pickE 7 b4 hb4 (by omega) (by omega)
  simp only [e, e1, some_bind']
  rw [wrap64 (n := (s.length : Int) + 1) (by omega) (by omega), d2]
  simp only [some_bind', d3, d4, spec_QuotaRoom_ok s _ (show s.length ≤ 1048577 by omega), d5]
  rw [nnK_pos h50, getK_lt (show r5.toNat < [(0 : Int), (0 : Int), (0 : Int), (1 : Int), (1 : Int), (2 : Int), (3 : Int)].length by simp; omega)]
  have hm := List.getElem_mem (show r5.toNat < [(0 : Int), (0 : Int), (0 : Int), (1 : Int), (1 : Int), (2 : Int), (3 : Int)].length by simp; omega)
  generalize [(0 : Int), (0 : Int), (0 : Int), (1 : Int), (1 : Int), (2 : Int), (3 : Int)][r5.toNat]'(by simp; omega) = i at hm
  have hi : 0 ≤ i ∧ i < 4 := by
    simp only [List.mem_cons, List.not_mem_nil, or_false] at hm
    omega
  rw [nnK_pos hi.1, getK_lt (by simp; omega)]
  exact ⟨_, _, s, rfl, hl⟩

theorem DrawFreeQuota_ok (code : List Int) (hc : ∀ x ∈ code, 0 ≤ x ∧ x ≤ 255) : ∃ n a s, spec_DrawFreeQuota code = some (n, a, s) ∧ s.length ≤ 7 ∧ a ≤ 9223372036854775807 := by
  unfold spec_DrawFreeQuota spec_DrawFreeQuotaK
  obtain ⟨b, e, hb⟩ := openE code hc
  obtain ⟨b1, s, e1, hb1, hl⟩ := l20Quotas_ok 14 b (by omega) (hb.mono (by omega))
  obtain ⟨r2, b2, d2, _, _, hb2⟩ := pickE ((s.length : Int) + 1) b1 hb1 (by omega) (by omega)
  obtain ⟨r3, b3, d3, _, _, hb3⟩ := pickE 14 b2 hb2 (by omega) (by omega)
  obtain ⟨r4, b4, d4, h40, h41, hb4⟩ := pickE 30 b3 hb3 (by omega) (by omega)
  obtain ⟨r5, b5, d5, h50, h51, hb5⟩ := pickE 7 b4 hb4 (by omega) (by omega)
  simp only [e, e1, some_bind']
  rw [wrap64 (n := (s.length : Int) + 1) (by omega) (by omega), d2]
  simp only [some_bind', d3, d4, d5]
  rw [nnK_pos h50, getK_lt (show r5.toNat < [(0 : Int), (0 : Int), (0 : Int), (0 : Int), (1 : Int), (2 : Int), (3 : Int)].length by simp; omega)]
  have hm := List.getElem_mem (show r5.toNat < [(0 : Int), (0 : Int), (0 : Int), (0 : Int), (1 : Int), (2 : Int), (3 : Int)].length by simp; omega)
  generalize [(0 : Int), (0 : Int), (0 : Int), (0 : Int), (1 : Int), (2 : Int), (3 : Int)][r5.toNat]'(by simp; omega) = i at hm
  have hi : 0 ≤ i ∧ i < 4 := by
    simp only [List.mem_cons, List.not_mem_nil, or_false] at hm
    omega
  have hlt : i.toNat < [r4, (0 : Int), (-1 : Int), (9223372036854775807 : Int)].length := by simp; omega
  rw [nnK_pos hi.1, getK_lt hlt]
  refine ⟨_, _, s, rfl, hl, ?_⟩
  have hm := List.getElem_mem hlt
  simp only [List.mem_cons, List.not_mem_nil, or_false] at hm
  omega

/-! ### the laws -/

theorem sameQuotas_ok (xs ys : List DQuota) (h : xs.length ≤ 1048577) : laws_sameQuotas xs ys = some (decide (xs = ys)) := by
  unfold laws_sameQuotas laws_sameQuotasK
  by_cases hl : xs.length = ys.length
  · have e : ((xs.length : Int) != (ys.length : Int)) = false := by simp [hl]
    have hq : loopF laws_sameQuotas_l0 (xs, ys, 0, ()) = some (if xs = ys then .inl () else .inr (false, ())) := by
      refine loop_eq2 xs ys (fun i => (xs, ys, (i : Int), ())) _ _ hl (fun i x y hx hy => ?_) ?_ rfl
      · have hl := get_lt hx
        obtain ⟨x1, x2, x3, ⟨⟩⟩ := x
        obtain ⟨y1, y2, y3, ⟨⟩⟩ := y
        simp only [laws_sameQuotas_l0, laws_sameQuotas_l0K, dec_lt hx, cond_true, nnK_nat, getK_some hx, getK_some hy, wrapS (show i < 4611686018427387904 by omega)]
        by_cases h1 : x1 = y1 <;> by_cases h2 : x2 = y2 <;> by_cases h3 : x3 = y3 <;> simp [h1, h2, h3]
      · simp only [laws_sameQuotas_l0, laws_sameQuotas_l0K, dec_nlt, cond_false]
    rw [e, cond_false, hq]
    by_cases h : xs = ys <;> simp [h, endK]
  · have e : ((xs.length : Int) != (ys.length : Int)) = true := by simp; omega
    rw [e, cond_true]
    have : ¬ xs = ys := fun e => hl (by rw [e])
    simp [this]

theorem alive_ok : laws_alive = some true := rfl

theorem FnQuotasValid_law (code : List Int) (h : WfD (.cons (.sl (.int .u8)) .nil) (code, ())) : laws_FnQuotasValid code = some true := by
  have hc : ∀ x ∈ code, 0 ≤ x ∧ x ≤ 255 := fun x hx => h.1.2 x hx
  unfold laws_FnQuotasValid laws_FnQuotasValidK
  by_cases hl : ((code.length : Int) > 1048576)
  · simp [hl]
  · obtain ⟨s, hs, hl7⟩ := DrawQuotasValid_ok code hc
    simp only [hl, decide_false, cond_false, hs, some_bind', impl_QuotasValid_ok s (by omega), spec_QuotasValid_ok s (by omega), beq_self_eq_true, Bool.not_true]
    have hb := valid_bad s
    have g : Int.tdiv (s.length : Int) 2 = (s.length : Int) / 2 := Int.tdiv_eq_ediv_of_nonneg (by omega)
    have hbig : s.length + 1 ≤ bigRow := by simp only [bigRow]; omega
    have hbig' : s.length ≤ bigRow := by omega
    have hv2 := impl_QuotasValid_ok (s ++ [((-1 : Int), (5 : Int), (6 : Int), ())]) (by simp; omega)
    cases hv : validQ s with
    | false =>
      simp only [Bool.not_false, Bool.not_true, cond_false, chk_pos hbig, chk_pos hbig', hv2, hb, some_bind', cond_true, alive_ok]
    | true =>
      simp only [Bool.not_false, Bool.not_true, cond_true]
      rw [g, wrap64 (by omega) (by omega), nnK_pos (by omega), chk_pos (by omega), impl_QuotasValid_ok _ (by simp; omega), valid_take hv]
      simp only [some_bind', cond_true, chk_pos hbig, chk_pos hbig', hv2, hb, Bool.not_false, alive_ok]

theorem FnQuotaRoom_law (code : List Int) (h : WfD (.cons (.sl (.int .u8)) .nil) (code, ())) : laws_FnQuotaRoom code = some true := by
  have hc : ∀ x ∈ code, 0 ≤ x ∧ x ≤ 255 := fun x hx => h.1.2 x hx
  unfold laws_FnQuotaRoom laws_FnQuotaRoomK
  by_cases hl : ((code.length : Int) > 1048576)
  · simp [hl]
  · obtain ⟨n, s, hs, hl7⟩ := DrawQuotaRoom_ok code hc
    simp only [hl, decide_false, cond_false, hs, some_bind', impl_QuotaRoom_ok s _ (show s.length ≤ 1048577 by omega), spec_QuotaRoom_ok s _ (show s.length ≤ 1048577 by omega), bne_self_eq_false]
    cases hi : inside s n with
    | false =>
      simp [roomQ_out hi, alive_ok]
    | true =>
      have hr := roomQ_in hi
      obtain ⟨h0, hn, _, hd, q, hq, hb, _, hg⟩ := inside_get hi
      have e1 : decide (roomQ s n < 0) = false := decide_eq_false (by omega)
      have e2 : useQ s n (roomQ s n + 1) = (false, s) := by
        have : roomQ s n + 1 > roomQ s n := by omega
        have h2 : 0 ≤ roomQ s n + 1 := by omega
        simp [useQ, hi, this, h2]
      obtain ⟨f, hf⟩ : ∃ f, s.length = f + 1 := ⟨s.length - 1, by omega⟩
      have e3 : roomQ s n = roomUp s f q.1 (less (q.2.1 - q.2.2.1) 10000) := by
        simp only [roomQ, hi, cond_true]
        rw [hf, roomUp_step h0 hq]
      have e4 : roomQ s n ≤ q.2.1 - q.2.2.1 := by rw [e3]; exact Int.le_trans (roomUp_le _ _ _ _) (less_le _ _).1
      have e5 : decide (roomQ s n ≤ IntKind.wrap .i64 (q.2.1 - q.2.2.1)) = true := by
        rw [wrap64 (by omega) (by omega)]; exact decide_eq_true e4
      simp only [e1, cond_false, impl_UseQuota_ok s _ _ (show s.length ≤ 1048577 by omega), some_bind', wrap64 (n := roomQ s n + 1) (by omega) (by omega), useQ_yes hi hr.1 (Int.le_refl _), e2, nnK_pos h0, getK_some hq, e5, cond_true]
      by_cases hp : q.1 < 0
      · simp [hp]
      · have hip : inside s q.1 = true := by
          simp only [inside, Bool.and_eq_true, decide_eq_true_eq] at hi ⊢
          exact ⟨hi.1, by omega, by omega⟩
        have : roomQ s n ≤ roomQ s q.1 := by
          rw [e3]
          simp only [roomQ, hip, cond_true]
          rw [hf, roomUp_fuel f s q.1 _ hd (by omega) (by omega)]
          exact roomUp_mono _ _ _ _ _ (less_le _ _).2
        simp [hp, this]

theorem FnQuotaShrinks_law (code : List Int) (h : WfD (.cons (.sl (.int .u8)) .nil) (code, ())) : laws_FnQuotaShrinks code = some true := by
  have hc : ∀ x ∈ code, 0 ≤ x ∧ x ≤ 255 := fun x hx => h.1.2 x hx
  unfold laws_FnQuotaShrinks laws_FnQuotaShrinksK
  by_cases hl : ((code.length : Int) > 1048576)
  · simp [hl]
  · obtain ⟨n, a, s, hs, hl7⟩ := DrawUseQuota_ok code hc
    have hul := useQ_length s n a (by omega)
    simp only [hl, decide_false, cond_false, hs, some_bind', impl_UseQuota_ok s _ _ (show s.length ≤ 1048577 by omega), spec_UseQuota_ok s _ _ (show s.length ≤ 1048577 by omega), sameQuotas_ok _ _ hul, decide_true, Bool.not_true, Bool.not_false, cond_true, beq_self_eq_true]
    rcases useQ_cases s n a with ⟨h1, _⟩ | ⟨hi, ha, hr, h1⟩
    · simp [h1, alive_ok]
    · have hr2 := roomQ_in hi
      have hv := addUp_valid hi hr (.inl ha)
      have := roomQ_addUp hi hv
      simp only [h1, Bool.not_true, cond_false, impl_QuotaRoom_ok s _ (show s.length ≤ 1048577 by omega), impl_QuotaRoom_ok (addUp a s.length s n) n (by rw [addUp_length]; omega), some_bind', this]
      rw [wrap64 (n := roomQ s n - a) (by omega) (by omega)]
      simp

/-! ### which quotas grow -/

def diffs : List DQuota → List DQuota → Int
  | x :: xs, y :: ys => (if x = y then 0 else 1) + diffs xs ys
  | _, _ => 0

theorem diffs_self : ∀ (xs : List DQuota), diffs xs xs = 0
  | [] => rfl
  | x :: xs => by simp [diffs, diffs_self xs]

theorem diffs_set : ∀ (ys bs : List DQuota) (i : Nat) (q v : DQuota), ys[i]? = some q → bs[i]? = some q → v ≠ q → diffs (ys.set i v) bs = diffs ys bs + 1
  | [], _, i, q, v, h, _, _ => by simp at h
  | _ :: _, [], i, q, v, _, h, _ => by simp at h
  | y :: ys, b :: bs, 0, q, v, h1, h2, hne => by
    simp only [List.getElem?_cons_zero, Option.some.injEq] at h1 h2
    subst h1; subst h2
    simp only [List.set_cons_zero, diffs, hne, if_false, if_true]
    omega
  | y :: ys, b :: bs, i + 1, q, v, h1, h2, hne => by
    simp only [List.getElem?_cons_succ] at h1 h2
    simp only [List.set_cons_succ, diffs, diffs_set ys bs i q v h1 h2 hne]
    omega

def upLen (b : List DQuota) : Nat → Int → Int
  | 0, _ => 0
  | f + 1, n => if 0 ≤ n then 1 + upLen b f (b.getD n.toNat (0, 0, 0, ())).1 else 0

theorem upLen_neg (b : List DQuota) {n : Int} (h : ¬ 0 ≤ n) (f : Nat) : upLen b f n = 0 := by
  cases f with
  | zero => rfl
  | succ f => simp [upLen, h]

theorem upLen_step {f : Nat} {b : List DQuota} {n : Int} {q : DQuota} (h0 : 0 ≤ n) (hq : b[n.toNat]? = some q) : upLen b (f + 1) n = 1 + upLen b f q.1 := by
  simp [upLen, h0, List.getD, hq]

theorem plusU_ne {a : Int} (ha : a ≠ 0) (q : DQuota) : plusU a q ≠ q := fun e => by
  have := congrArg (fun q : DQuota => q.2.2.1) e
  simp only [plusU] at this
  omega

theorem diffs_addUp {a : Int} (ha : a ≠ 0) : ∀ (f : Nat) (b : List DQuota) (n : Int), dn b → n < (b.length : Int) → diffs (addUp a f b n) b = upLen b f n
  | 0, b, _, _, _ => diffs_self b
  | f + 1, b, n, hd, hl => by
    by_cases h0 : 0 ≤ n
    · obtain ⟨q, hq⟩ := get_ex h0 hl
      have hp := hd _ _ hq
      have hZn : (addUp a f b q.1)[n.toNat]? = some q := by rw [addUp_get_gt a f b q.1 _ hd (by omega) (by omega)]; exact hq
      rw [addUp_top a hd h0 hq, diffs_set _ _ _ q _ hZn hq (plusU_ne ha q), diffs_addUp ha f b q.1 hd (by omega), upLen_step h0 hq]
      omega
    · rw [addUp_neg a _ h0, upLen_neg b h0, diffs_self]

theorem addUp_each (a : Int) : ∀ (f : Nat) (b : List DQuota) (n : Int), dn b → n < (b.length : Int) → ∀ (i : Nat) (q : DQuota), b[i]? = some q → (addUp a f b n)[i]? = some q ∨ (addUp a f b n)[i]? = some (plusU a q)
  | 0, _, _, _, _, i, q, h => .inl h
  | f + 1, b, n, hd, hl, i, q', h => by
    by_cases h0 : 0 ≤ n
    · obtain ⟨q, hq⟩ := get_ex h0 hl
      have hp := hd _ _ hq
      rw [addUp_top a hd h0 hq, List.getElem?_set]
      split
      · rename_i e
        subst e
        rw [hq] at h
        obtain rfl := Option.some.inj h
        rw [if_pos (by rw [addUp_length]; exact get_lt hq)]
        exact .inr rfl
      · exact addUp_each a f b q.1 hd (by omega) i q' h
    · rw [addUp_neg a _ h0]; exact .inl h

theorem addUp_zero (f : Nat) (b : List DQuota) (n : Int) (hd : dn b) (hl : n < (b.length : Int)) : addUp 0 f b n = b := by
  apply List.ext_getElem?
  intro i
  cases hb : b[i]? with
  | none =>
    rw [List.getElem?_eq_none_iff] at hb ⊢
    rw [addUp_length]; exact hb
  | some q =>
    rcases addUp_each 0 f b n hd hl i q hb with h | h
    · exact h
    · rw [h]
      obtain ⟨q1, q2, q3, ⟨⟩⟩ := q
      simp [plusU]

theorem grown_loop (L X : List DQuota) (n a : Int) (ha : 0 ≤ a ∧ a ≤ 10000) (hL : L.length ≤ 16) (hq : qok L = true) (hXL : X.length = L.length) (hE : ∀ (i : Nat) (q : DQuota), L[i]? = some q → X[i]? = some q ∨ X[i]? = some (plusU a q)) :
    ∀ (ys xs : List DQuota) (i : Nat) (g : Int), L.drop i = ys → X.drop i = xs → i ≤ L.length → 0 ≤ g → g ≤ (i : Int) → loopF laws_FnUseQuota_l0 (L, n, a, X, g, (i : Int), ()) = some (.inl (L, n, a, X, g + diffs xs ys, ())) := by
  intro ys
  induction ys with
  | nil =>
    intro xs i g hy hx hi h0 hg
    have hi2 : i = L.length := by
      have := congrArg List.length hy
      simp at this; omega
    subst hi2
    have : xs = [] := by rw [← hx, ← hXL]; simp
    subst this
    apply loopF_inr
    simp only [laws_FnUseQuota_l0, laws_FnUseQuota_l0K, dec_nlt, cond_false, diffs, Int.add_zero]
  | cons y ys ih =>
    intro xs i g hy hx hi h0 hg
    obtain ⟨hy1, hy2⟩ := drop_get hy
    have hlt := get_lt hy1
    cases xs with
    | nil =>
      have := congrArg List.length hx
      simp at this; omega
    | cons x xs =>
      obtain ⟨hx1, hx2⟩ := drop_get hx
      have hb := qok_get hq hy1
      have hcase := hE i y hy1
      rw [hx1, Option.some.injEq, Option.some.injEq] at hcase
      by_cases e : x = y
      · subst e
        have hst : laws_FnUseQuota_l0 (L, n, a, X, g, (i : Int), ()) = some (.inl (L, n, a, X, g, ((i + 1 : Nat) : Int), ())) := by
          simp only [laws_FnUseQuota_l0, laws_FnUseQuota_l0K, dec_lt hy1, cond_true, nnK_nat, getK_some hx1, getK_some hy1, wrapS (show i < 4611686018427387904 by omega), decide_true, Bool.and_self, Bool.not_true, cond_false]
        rw [loopF_inl hst, ih xs (i + 1) g hy2 hx2 (by omega) h0 (by omega)]
        simp [diffs]
      · have ex : x = plusU a y := by
          rcases hcase with h | h
          · exact absurd h e
          · exact h
        have hd : (!(decide (x.1 = y.1) && (decide (x.2.1 = y.2.1) && (decide (x.2.2.1 = y.2.2.1) && true)))) = true := by
          have : x.2.2.1 ≠ y.2.2.1 := fun e3 => e (by
            rw [ex] at e3 ⊢
            obtain ⟨y1, y2, y3, ⟨⟩⟩ := y
            simp only [plusU] at e3 ⊢
            rw [e3])
          simp [this]
        have hw : (x.2.2.1 != IntKind.wrap .i64 (y.2.2.1 + a)) = false := by
          rw [wrap64 (by omega) (by omega), ex]
          simp [plusU]
        have hst : laws_FnUseQuota_l0 (L, n, a, X, g, (i : Int), ()) = some (.inl (L, n, a, X, g + 1, ((i + 1 : Nat) : Int), ())) := by
          simp only [laws_FnUseQuota_l0, laws_FnUseQuota_l0K, dec_lt hy1, cond_true, nnK_nat, getK_some hx1, getK_some hy1, wrapS (show i < 4611686018427387904 by omega), hd, hw, cond_false]
          rw [wrap64 (n := g + 1) (by omega) (by omega)]
        rw [loopF_inl hst, ih xs (i + 1) (g + 1) hy2 hx2 (by omega) (by omega) (by omega)]
        simp only [diffs, e, if_false]
        congr 7
        omega

theorem above_loop (L X : List DQuota) (n a g : Int) (hL : L.length ≤ 16) (hd : dn L) : ∀ (f : Nat) (k u : Int), k < (f : Int) → k < (L.length : Int) → 0 ≤ u → u ≤ 1000 - (f : Int) → f ≤ 1000 → loopF laws_FnUseQuota_l2 (L, n, a, X, g, u, k, ()) = some (L, n, a, X, g, u + upLen L f k, ()) := by
  intro f
  induction f with
  | zero =>
    intro k u hk _ _ _ _
    apply loopF_inr
    have : ¬ k ≥ 0 := by omega
    simp [laws_FnUseQuota_l2, laws_FnUseQuota_l2K, this, upLen]
  | succ f ih =>
    intro k u hk hl hu hu2 hf
    by_cases h0 : 0 ≤ k
    · obtain ⟨q, hq⟩ := get_ex h0 hl
      have hp := hd _ _ hq
      have hst : laws_FnUseQuota_l2 (L, n, a, X, g, u, k, ()) = some (.inl (L, n, a, X, g, u + 1, q.1, ())) := by
        simp only [laws_FnUseQuota_l2, laws_FnUseQuota_l2K, ge_iff_le, h0, decide_true, cond_true, nnK_pos h0, getK_some hq]
        rw [wrap64 (n := u + 1) (by omega) (by omega)]
      rw [loopF_inl hst, ih q.1 (u + 1) (by omega) (by omega) (by omega) (by omega) (by omega), upLen_step h0 hq]
      congr 7
      omega
    · have : ¬ k ≥ 0 := by omega
      rw [upLen_neg L h0]
      apply loopF_inr
      simp [laws_FnUseQuota_l2, laws_FnUseQuota_l2K, this]

theorem FnUseQuota_law (code : List Int) (h : WfD (.cons (.sl (.int .u8)) .nil) (code, ())) : laws_FnUseQuota code = some true := by
  have hc : ∀ x ∈ code, 0 ≤ x ∧ x ≤ 255 := fun x hx => h.1.2 x hx
  unfold laws_FnUseQuota laws_FnUseQuotaK
  by_cases hl : ((code.length : Int) > 1048576)
  · simp [hl]
  · obtain ⟨n, a, s, hs, hl7⟩ := DrawUseQuota_ok code hc
    have hul := useQ_length s n a (by omega)
    simp only [hl, decide_false, cond_false, hs, some_bind', impl_UseQuota_ok s _ _ (show s.length ≤ 1048577 by omega), spec_UseQuota_ok s _ _ (show s.length ≤ 1048577 by omega), sameQuotas_ok _ _ hul, decide_true, Bool.not_true, Bool.not_false, cond_true, beq_self_eq_true]
    rcases useQ_cases s n a with ⟨h1, h2⟩ | ⟨hi, ha, hr, h1⟩
    · rcases h2 with h2 | h2
      · simp [h1, h2, alive_ok]
      · simp only [h1, h2, Bool.not_false, cond_true, decide_true, some_bind', alive_ok]
        cases ((s.length : Int) == 0) <;> rfl
    · have hr2 := roomQ_in hi
      obtain ⟨h0, hn, h16, hd, q, hq, hb, _, hg⟩ := inside_get hi
      obtain ⟨hv, hfree⟩ := use_free hi ha hr
      have hqk : qok s = true := by
        simp only [inside, Bool.and_eq_true] at hi
        exact (validQ_ok hi.1).1
      have hXL := addUp_length a s.length s n
      have hgrow := grown_loop s (addUp a s.length s n) n a (by omega) h16 hqk hXL (addUp_each a s.length s n hd hn) s (addUp a s.length s n) 0 0 (by simp) (by simp) (by omega) (by omega) (by omega)
      rw [show (((0 : Nat) : Int)) = 0 from rfl, Int.zero_add] at hgrow
      have habove := above_loop s (addUp a s.length s n) n a (diffs (addUp a s.length s n) s) h16 hd s.length n 0 (by omega) hn (by omega) (by omega) (by omega)
      rw [Int.zero_add] at habove
      simp only [h1, Bool.not_true, cond_false, hgrow, some_bind', endK, habove, impl_FreeQuota_ok (addUp a s.length s n) n a (by omega) (by omega), hfree, impl_QuotasValid_ok (addUp a s.length s n) (by omega), hv, cond_true, sameQuotas_ok s s (by omega), decide_true]
      by_cases h00 : a = 0
      · have : diffs (addUp a s.length s n) s = 0 := by rw [h00, addUp_zero s.length s n hd hn, diffs_self]
        simp [h00, h00 ▸ this]
      · have hpos : a > 0 := by omega
        simp [h00, hpos, diffs_addUp h00 s.length s n hd hn]

theorem FnFreeQuota_law (code : List Int) (h : WfD (.cons (.sl (.int .u8)) .nil) (code, ())) : laws_FnFreeQuota code = some true := by
  have hc : ∀ x ∈ code, 0 ≤ x ∧ x ≤ 255 := fun x hx => h.1.2 x hx
  unfold laws_FnFreeQuota laws_FnFreeQuotaK
  by_cases hl : ((code.length : Int) > 1048576)
  · simp [hl]
  · obtain ⟨n, a, s, hs, hl7, ha1⟩ := DrawFreeQuota_ok code hc
    have hul := freeQ_length s n a (by omega)
    simp only [hl, decide_false, cond_false, hs, some_bind', impl_FreeQuota_ok s _ _ (show s.length ≤ 1048577 by omega) ha1, spec_FreeQuota_ok s _ _ (show s.length ≤ 1048577 by omega), sameQuotas_ok _ _ hul, decide_true, Bool.not_true, Bool.not_false, cond_true, beq_self_eq_true]
    rcases freeQ_cases s n a with ⟨h1, h2⟩ | ⟨hi, ha, hp, h1⟩
    · rcases h2 with h2 | h2
      · simp [h1, h2, alive_ok]
      · simp only [h1, h2, Bool.not_false, cond_true, decide_true, some_bind', alive_ok]
        cases ((s.length : Int) == 0) <;> rfl
    · have hr2 := roomQ_in hi
      obtain ⟨h0, hn, h16, hd, q, hq, hb, _, hg⟩ := inside_get hi
      obtain ⟨hv, huse, hroom, q', hq', hpq⟩ := free_use hi ha hp
      have hqk : qok s = true := by
        simp only [inside, Bool.and_eq_true] at hi
        exact (validQ_ok hi.1).1
      have hXL := addUp_length (-a) s.length s n
      have hloop : loopF laws_FnFreeQuota_l0 (s, n, addUp (-a) s.length s n, s, true, 0, 0, ()) = some (s, n, addUp (-a) s.length s n, s, true, partsOf s n, ()) := by
        have := loop_list1 (nxt := laws_FnFreeQuota_l0) s (fun i v => (s, n, addUp (-a) s.length s n, s, true, v, (i : Int), ())) (fun _ q v => .inl (if q.1 = n then v + q.2.2.1 else v)) (fun v => (s, n, addUp (-a) s.length s n, s, true, v, ())) (fun i v => 0 ≤ v ∧ v ≤ 10000 * (i : Int)) 0
          (fun i x v hv hx => ?_) (fun i x v v' hv hx e => ?_) (fun v _ => ?_) (by decide) (st := (s, n, addUp (-a) s.length s n, s, true, 0, 0, ())) rfl
        · rw [this, goL_fold (fun s (q : DQuota) => if q.1 = n then s + q.2.2.1 else s), parts_fold]
          simp
        · have hl := get_lt hx
          have hb := qok_mem hqk x (List.mem_of_getElem? hx)
          simp only [laws_FnFreeQuota_l0, laws_FnFreeQuota_l0K, dec_lt hx, cond_true, nnK_nat, getK_some hx, wrapS (show i < 4611686018427387904 by omega), goTo_l]
          by_cases e : x.1 = n
          · simp only [e, beq_self_eq_true, cond_true, if_true]
            rw [wrap64 (n := v + x.2.2.1) (by omega) (by omega)]
          · have : (x.1 == n) = false := by simpa using e
            simp only [this, cond_false, e, if_false]
        · have hb := qok_mem hqk x (List.mem_of_getElem? hx)
          cases e
          push_cast
          split <;> omega
        · simp only [laws_FnFreeQuota_l0, laws_FnFreeQuota_l0K, dec_nlt, cond_false]
      have g1 : decide (q'.2.2.1 ≥ partsOf s n) = true := decide_eq_true hpq
      have g2 : decide (roomQ (addUp (-a) s.length s n) n ≥ roomQ s n) = true := decide_eq_true (by omega)
      simp only [h1, Bool.not_true, cond_false, impl_UseQuota_ok (addUp (-a) s.length s n) n a (by omega), huse, some_bind', hloop, impl_QuotasValid_ok (addUp (-a) s.length s n) (by omega), hv, cond_true, sameQuotas_ok s s (by omega), decide_true, nnK_pos h0, getK_some hq', g1,
        impl_QuotaRoom_ok (addUp (-a) s.length s n) n (by omega), impl_QuotaRoom_ok s n (show s.length ≤ 1048577 by omega), g2]


end Go.Ev
