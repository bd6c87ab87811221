/-
  Draws; sending and receiving in the reference.
-/
import Derived.Test.YtabemkafgnhddaaLaw2
namespace Go.Ev
set_option linter.unusedVariables false
set_option linter.unusedSimpArgs false
set_option maxRecDepth 100000
set_option synthInstance.maxSize 2000
set_option synthInstance.maxHeartbeats 400000

/-! ### draws -/

/-- a reader: bytes, no more than 2000, and how often it was asked -/
def rdOk (b : Dl20Rd) (m : Int) : Prop := b.1.length ≤ 2000 ∧ (∀ x ∈ b.1, 0 ≤ x ∧ x ≤ 255) ∧ 0 ≤ b.2.1 ∧ b.2.1 ≤ m

theorem wrapU {x : Int} (h : 0 ≤ x) (h1 : x < 18446744073709551616) : IntKind.wrap .u64 x = x := by
  simp [IntKind.wrap, IntKind.bits, IntKind.signed]
  omega

theorem draw_ok (n : Int) (b : Dl20Rd) {m : Int} (h : rdOk b m) (hm : m ≤ 1000000000) (hn : 1 ≤ n) : ∃ r, spec_l20Rd_pick n b = some (r, (b.1, b.2.1 + 1, ())) ∧ 0 ≤ r ∧ r < n := by
  obtain ⟨h1, h2, h3, h4⟩ := h
  unfold spec_l20Rd_pick spec_l20Rd_pickK
  have e0 : decide (n < 1) = false := decide_eq_false (by omega)
  simp only [e0, Bool.not_false, cond_true]
  rw [wrap64 (n := b.2.1 + 1) (by omega) (by omega), wrap64 (n := b.2.1 + 1 - 1) (by omega) (by omega), show b.2.1 + 1 - 1 = b.2.1 from by omega]
  by_cases hz : (b.1.length : Int) = 0
  · simp [hz]; omega
  · have e1 : ((b.1.length : Int) == 0) = false := by simpa using hz
    simp only [e1, cond_false]
    by_cases hlt : b.2.1 < (b.1.length : Int)
    · have hl : b.2.1.toNat < b.1.length := by omega
      have hv := h2 b.1[b.2.1.toNat] (List.getElem_mem hl)
      simp only [hlt, decide_true, cond_true, nnK_pos h3]
      rw [getK_lt hl, chk_pos (by omega), wrap64 (n := b.1[b.2.1.toNat]) (by omega) (by omega), Int.tmod_eq_emod_of_nonneg (by omega)]
      exact ⟨_, rfl, Int.emod_nonneg _ (by omega), Int.emod_lt_of_pos _ (by omega)⟩
    · simp only [hlt, decide_false, cond_false]
      have hp : (0 : Int) < (b.1.length : Int) := by omega
      rw [chk_pos hz, Int.tmod_eq_emod_of_nonneg (a := b.2.1) h3]
      have g1 := Int.emod_nonneg b.2.1 hz
      have g2 := Int.emod_lt_of_pos b.2.1 hp
      rw [nnK_pos g1, getK_lt (show (b.2.1 % (b.1.length : Int)).toNat < b.1.length by omega), chk_pos hz, wrap64 (n := b.2.1 * 7) (by omega) (by omega), wrap64 (n := b.2.1 * 7 + 3) (by omega) (by omega), Int.tmod_eq_emod_of_nonneg (a := b.2.1 * 7 + 3) (by omega)]
      have g3 := Int.emod_nonneg (b.2.1 * 7 + 3) hz
      have g4 := Int.emod_lt_of_pos (b.2.1 * 7 + 3) hp
      rw [nnK_pos g3, getK_lt (show ((b.2.1 * 7 + 3) % (b.1.length : Int)).toNat < b.1.length by omega), chk_pos hz, chk_pos (show n ≠ 0 by omega)]
      have hv := h2 _ (List.getElem_mem (show (b.2.1 % (b.1.length : Int)).toNat < b.1.length by omega))
      have hw := h2 _ (List.getElem_mem (show ((b.2.1 * 7 + 3) % (b.1.length : Int)).toNat < b.1.length by omega))
      generalize b.1[(b.2.1 % (b.1.length : Int)).toNat]'(by omega) = v at hv
      generalize b.1[((b.2.1 * 7 + 3) % (b.1.length : Int)).toNat]'(by omega) = w at hw
      have hq1 : 0 ≤ Int.tdiv b.2.1 (b.1.length : Int) := by rw [Int.tdiv_eq_ediv_of_nonneg h3]; exact Int.ediv_nonneg h3 (by omega)
      have hq2 : Int.tdiv b.2.1 (b.1.length : Int) ≤ b.2.1 := by rw [Int.tdiv_eq_ediv_of_nonneg h3]; exact Int.ediv_le_self _ h3
      generalize Int.tdiv b.2.1 (b.1.length : Int) = q at hq1 hq2
      rw [wrap64 (n := v) (by omega) (by omega), wrap64 (n := v * 131) (by omega) (by omega), wrap64 (n := w) (by omega) (by omega), wrap64 (n := w * 1117) (by omega) (by omega), wrap64 (n := v * 131 + w * 1117) (by omega) (by omega), wrap64 (n := b.2.1 * 29) (by omega) (by omega),
        wrap64 (n := v * 131 + w * 1117 + b.2.1 * 29) (by omega) (by omega), wrap64 (n := q) (by omega) (by omega), wrap64 (n := q * 53) (by omega) (by omega), wrap64 (n := v * 131 + w * 1117 + b.2.1 * 29 + q * 53) (by omega) (by omega)]
      generalize hX : v * 131 + w * 1117 + b.2.1 * 29 + q * 53 = X
      have hX0 : 0 ≤ X ∧ X < 1000000000000 := by omega
      have hY : Int.tdiv X 64 = X / 64 := Int.tdiv_eq_ediv_of_nonneg hX0.1
      rw [hY, wrap64 (n := X / 64) (by omega) (by omega)]
      have hxor : (BitVec.ofInt 64 X ^^^ BitVec.ofInt 64 (X / 64)).toNat < 1099511627776 := by
        rw [BitVec.toNat_xor]
        have small : ∀ z : Int, 0 ≤ z → z < 1000000000000 → (BitVec.ofInt 64 z).toNat < 2 ^ 40 := fun z h0 h1 => by
          rw [BitVec.toNat_ofInt, Int.emod_eq_of_lt h0 (by show z < ((2 ^ 64 : Nat) : Int); omega)]
          omega
        exact Nat.xor_lt_two_pow (n := 40) (small X hX0.1 hX0.2) (small (X / 64) (by omega) (by omega))
      rw [wrap64 (by omega) (by omega), Int.tmod_eq_emod_of_nonneg (by omega)]
      exact ⟨_, rfl, Int.emod_nonneg _ (by omega), Int.emod_lt_of_pos _ (by omega)⟩

theorem rdOk.mono {b : Dl20Rd} {m m' : Int} (h : rdOk b m) (hm : m ≤ m') : rdOk b m' := ⟨h.1, h.2.1, h.2.2.1, Int.le_trans h.2.2.2 hm⟩

theorem pickE (n : Int) (b : Dl20Rd) {m : Int} (h : rdOk b m) (hm : m ≤ 1000000) (hn : 1 ≤ n) : ∃ r b', spec_l20Rd_pick n b = some (r, b') ∧ 0 ≤ r ∧ r < n ∧ rdOk b' (m + 1) := by
  obtain ⟨r, h1, h2, h3⟩ := draw_ok n b h (by omega) hn
  exact ⟨r, _, h1, h2, h3, h.1, h.2.1, by have := h.2.2.1; show 0 ≤ b.2.1 + 1; omega, by have := h.2.2.2; show b.2.1 + 1 ≤ m + 1; omega⟩

theorem oddE (n : Int) (b : Dl20Rd) {m : Int} (h : rdOk b m) (hm : m ≤ 1000000) (hn : 0 ≤ n) : ∃ c b', spec_l20Rd_odd n b = some (c, b') ∧ rdOk b' (m + 1) := by
  by_cases h0 : n = 0
  · subst h0
    exact ⟨false, b, rfl, h.mono (by omega)⟩
  · obtain ⟨r, b', h1, h2, h3, h4⟩ := pickE n b h hm (by omega)
    have hd : decide (n > 0) = true := decide_eq_true (by omega)
    refine ⟨r == IntKind.wrap .i64 (n - 1), b', ?_, h4⟩
    simp only [spec_l20Rd_odd, spec_l20Rd_oddK, hd, cond_true, h1, B7]

theorem openE (code : List Int) (hc : ∀ x ∈ code, 0 ≤ x ∧ x ≤ 255) : ∃ b, spec_l20Open code = some b ∧ rdOk b 0 := by
  unfold spec_l20Open spec_l20OpenK
  by_cases h : ((code.length : Int) > 2000)
  · simp only [h, decide_true, cond_true]
    rw [chk_pos (by omega)]
    exact ⟨_, rfl, by simp; omega, fun x hx => hc x (List.mem_of_mem_take hx), by simp, by simp⟩
  · simp only [h, decide_false, cond_false]
    exact ⟨_, rfl, by show code.length ≤ 2000; omega, hc, by simp, by simp⟩

/-- a number of a row of so many: what is there -/
theorem getE {γ α : Type} (xs : List α) {r : Int} (h0 : 0 ≤ r) (h1 : r < (xs.length : Int)) (K : α → Option γ) : ∃ x, x ∈ xs ∧ (nnK r fun i => getK xs i K) = K x := by
  rw [nnK_pos h0, getK_lt (show r.toNat < xs.length by omega)]
  exact ⟨_, List.getElem_mem _, rfl⟩


/-! ### endpoints as lists -/

def mayW (w : DWaiter) : Bool := rgt w.1 0 15 && (rgt w.2.1 0 7 && rgt w.2.2.1 0 999)

def vE (s : Bool) (xs : List DWaiter) : Prop := (∀ x ∈ xs, mayW x = true ∧ (s = true ∨ x.2.2.1 = 0 ∧ x.2.2.2.1 = 0)) ∧ xs.Pairwise (fun a b => b.2.1 ≤ a.2.1) ∧ xs.Pairwise (fun a b => b.1 ≠ a.1) ∧ (0 < xs.length ∨ s = false)

theorem wOk_iff {e : DEndpoint} {i : Nat} {w : DWaiter} : wOk e i w = true ↔ mayW w = true ∧ (i = 0 ∨ ¬ (e.2.1.getD (i - 1) (0, 0, 0, 0, ())).2.1 < w.2.1) ∧ (e.1 = true ∨ w.2.2.1 = 0 ∧ w.2.2.2.1 = 0) ∧ noneB e.2.1 i w.1 = true := by
  unfold wOk mayW
  simp only [Bool.and_eq_true, Bool.or_eq_true, decide_eq_true_eq, Bool.not_eq_true', decide_eq_false_iff_not]

theorem validE_iff {e : DEndpoint} : validE e = true ↔ vE e.1 e.2.1 := by
  unfold validE vE
  rw [Bool.and_eq_true, all_zip0 (p := fun i x => wOk e i x)]
  have hlast : ((decide (0 < e.2.1.length) || !e.1) = true) ↔ (0 < e.2.1.length ∨ e.1 = false) := by
    rw [Bool.or_eq_true, decide_eq_true_eq, Bool.not_eq_true']
  rw [hlast]
  constructor
  · rintro ⟨h, h4⟩
    have hw := fun i x hx => wOk_iff.1 (h i x hx)
    refine ⟨fun x hx => ?_, List.pairwise_iff_getElem.2 fun i j hi hj hij => ?_, List.pairwise_iff_getElem.2 fun i j hi hj hij => ?_, h4⟩
    · obtain ⟨i, hi⟩ := List.getElem?_of_mem hx
      exact ⟨(hw i x hi).1, (hw i x hi).2.2.1⟩
    · have step : ∀ k (hk : k + 1 < e.2.1.length), e.2.1[k + 1].2.1 ≤ e.2.1[k].2.1 := fun k hk => by
        have := (hw (k + 1) _ (List.getElem?_eq_getElem hk)).2.1
        rw [Nat.add_sub_cancel, show e.2.1.getD k (0, 0, 0, 0, ()) = e.2.1[k] by simp [List.getD, show k < e.2.1.length by omega]] at this
        omega
      induction j with
      | zero => omega
      | succ j ih =>
        have h1 := step j hj
        rcases Nat.lt_or_ge i j with q | q
        · exact Int.le_trans h1 (ih (by omega) q step)
        · obtain rfl : i = j := by omega
          exact h1
    · have := (hw j _ (List.getElem?_eq_getElem hj)).2.2.2
      unfold noneB at this
      rw [List.all_eq_true] at this
      have h1 := this e.2.1[i] (List.mem_take_iff_getElem.2 ⟨i, by omega, rfl⟩)
      simp only [Bool.not_eq_true', decide_eq_false_iff_not] at h1
      exact fun q => h1 q.symm
  · rintro ⟨h1, h2, h3, h4⟩
    refine ⟨fun i x hx => wOk_iff.2 ?_, h4⟩
    have hl := get_lt hx
    have hxi : e.2.1[i] = x := (List.getElem?_eq_some_iff.1 hx).2
    have hm := h1 x (List.mem_of_getElem? hx)
    refine ⟨hm.1, ?_, hm.2, ?_⟩
    · by_cases h0 : i = 0
      · exact .inl h0
      · right
        have := List.pairwise_iff_getElem.1 h2 (i - 1) i (by omega) hl (by omega)
        rw [show e.2.1.getD (i - 1) (0, 0, 0, 0, ()) = e.2.1[i - 1] by simp [List.getD, show i - 1 < e.2.1.length by omega], ← hxi]
        omega
    · unfold noneB
      rw [List.all_eq_true]
      intro y hy
      obtain ⟨m, hm, rfl⟩ := List.mem_take_iff_getElem.1 hy
      have := List.pairwise_iff_getElem.1 h3 m i (by omega) hl (by omega)
      rw [hxi] at this
      simp only [Bool.not_eq_true', decide_eq_false_iff_not]
      exact fun q => this q.symm

/-! ### sending and taking: only how long the line is -/

theorem has_ok (e : DEndpoint) (n : Int) (h : e.2.1.length ≤ 1048577) : spec_l10Has e n = some (e.2.1.any fun x => decide (x.1 = n)) := by
  unfold spec_l10Has spec_l10HasK
  have em : (e.1, e.2.1, ()) = e := rfl
  have := loop_list0 (nxt := spec_l10Has_l0) e.2.1 (fun i (_ : Unit) => (n, e, (i : Int), ())) (fun _ x _ => bif !decide (x.1 = n) then .inl () else .inr (.inr (true, ()))) (fun _ => .inl ()) ()
    (fun i x s hx => ?_) (fun s => ?_) (st := (n, e, 0, ())) rfl
  · rw [em, this, goL_all (fun _ (x : DWaiter) => !decide (x.1 = n))]
    have : (e.2.1.zipIdx.all fun q => !decide (q.1.1 = n)) = !(e.2.1.any fun x => decide (x.1 = n)) := by
      rw [Bool.eq_iff_iff, all_zip0 (p := fun _ (y : DWaiter) => !decide (y.1 = n)), Bool.not_eq_true', List.any_eq_false]
      constructor
      · intro h x hx
        obtain ⟨i, hi⟩ := List.getElem?_of_mem hx
        have := h i x hi
        simpa using this
      · intro h i x hx
        have := h x (List.mem_of_getElem? hx)
        simpa using this
    rw [this]
    cases (e.2.1.any fun x => decide (x.1 = n)) <;> rfl
  · have hl := get_lt hx
    simp only [spec_l10Has_l0, spec_l10Has_l0K, dec_lt hx, cond_true, nnK_nat, getK_some hx, wrapS (show i < 4611686018427387904 by omega), goTo_if, goTo_l, goTo_r, beqI]
    cases decide (x.1 = n) <;> rfl
  · simp only [spec_l10Has_l0, spec_l10Has_l0K, dec_nlt, cond_false]

def hasW (e : DEndpoint) (n : Int) : Bool := e.2.1.any fun x => decide (x.1 = n)
def comesE (e : DEndpoint) (w : DWaiter) : Bool := validE e && (mayW w && !hasW e w.1)

theorem comes_ok (e : DEndpoint) (w : DWaiter) (h : e.2.1.length ≤ 1048577) : spec_l10Waiter e w = some (comesE e w) := by
  unfold spec_l10Waiter spec_l10WaiterK comesE mayW hasW
  have em : (e.1, e.2.1, ()) = e := rfl
  simp only [em, spec_EndpointValid_ok e h, B7, l1In_ok, has_ok e w.1 h, rgt]
  generalize (decide (0 ≤ w.1) && decide (w.1 ≤ 15)) = c1
  generalize (decide (0 ≤ w.2.1) && decide (w.2.1 ≤ 7)) = c2
  generalize (decide (0 ≤ w.2.2.1) && decide (w.2.2.1 ≤ 999)) = c3
  cases validE e <;> cases c1 <;> cases c2 <;> cases c3 <;> simp

/-- where a thread stands, from the end -/
def qAt (xs : List DWaiter) (p : Int) : Nat → Nat
  | 0 => 0
  | k + 1 => if (xs.getD k (0, 0, 0, 0, ())).2.1 < p then qAt xs p k else k + 1

theorem qAt_le (xs : List DWaiter) (p : Int) : ∀ k, qAt xs p k ≤ k
  | 0 => Nat.le_refl _
  | k + 1 => by
    simp only [qAt]
    split
    · exact Nat.le_succ_of_le (qAt_le xs p k)
    · exact Nat.le_refl _

def queueL (xs : List DWaiter) (w : DWaiter) : List DWaiter := xs.take (qAt xs w.2.1 xs.length) ++ [w] ++ xs.drop (qAt xs w.2.1 xs.length)

theorem queue_loop (xs : List DWaiter) (w : DWaiter) (h : xs.length ≤ 1048577) : ∀ (k : Nat), k ≤ xs.length → loopF spec_l10Queue_l0 (xs, w, (k : Int), ()) = some (xs, w, (qAt xs w.2.1 k : Int), ()) := by
  intro k
  induction k with
  | zero => intro _; exact loopF_inr rfl
  | succ k ih =>
    intro hk
    have hd : decide (((k + 1 : Nat) : Int) > 0) = true := by simp
    have hw : IntKind.wrap .i64 (((k + 1 : Nat) : Int) - 1) = (k : Int) := by rw [wrap64 (by omega) (by omega)]; omega
    have hg : xs[k]? = some xs[k] := List.getElem?_eq_getElem (by omega)
    have hgd : xs.getD k (0, 0, 0, 0, ()) = xs[k] := by simp [List.getD, hg]
    by_cases hc : xs[k].2.1 < w.2.1
    · have hst : spec_l10Queue_l0 (xs, w, ((k + 1 : Nat) : Int), ()) = some (.inl (xs, w, (k : Int), ())) := by
        simp only [spec_l10Queue_l0, spec_l10Queue_l0K, hd, cond_true, hw, nnK_nat, getK_some hg, decide_eq_true hc]
      rw [loopF_inl hst, ih (by omega)]
      simp only [qAt, hgd, hc, if_true]
    · have hst : spec_l10Queue_l0 (xs, w, ((k + 1 : Nat) : Int), ()) = some (.inr (xs, w, ((k + 1 : Nat) : Int), ())) := by
        simp only [spec_l10Queue_l0, spec_l10Queue_l0K, hd, cond_true, hw, nnK_nat, getK_some hg, decide_eq_false hc, cond_false]
      rw [loopF_inr hst]
      simp only [qAt, hgd, hc, if_false]

theorem queue_ok (xs : List DWaiter) (w : DWaiter) (h : xs.length ≤ 1048577) : spec_l10Queue xs w = some (queueL xs w) := by
  unfold spec_l10Queue spec_l10QueueK queueL
  have em : (w.1, w.2.1, w.2.2.1, w.2.2.2.1, ()) = w := rfl
  rw [em, queue_loop xs w h xs.length (Nat.le_refl _)]
  have hle := qAt_le xs w.2.1 xs.length
  generalize qAt xs w.2.1 xs.length = a at hle ⊢
  simp only [B7, nnK_nat, chk_pos hle]
  rw [chk_pos (by simp only [bigRow, List.length_drop]; omega), chk_pos (by simp only [bigRow, List.length_take]; omega), chk_pos (by simp only [bigRow, List.length_take]; omega), chk_pos (by simp only [bigRow, List.length_append, List.length_take, List.length_drop, List.length_singleton]; omega)]

theorem queueL_length (xs : List DWaiter) (w : DWaiter) : (queueL xs w).length = xs.length + 1 := by
  unfold queueL
  have := qAt_le xs w.2.1 xs.length
  simp; omega

def sendE (e : DEndpoint) (w : DWaiter) : Bool × Int × List DWaiter :=
  bif comesE e w then (match e.1, e.2.1 with
    | false, x :: r => (false, x.1, r)
    | _, _ => (true, -1, queueL e.2.1 w))
  else (false, -1, [])

def takeE (e : DEndpoint) (number prio : Int) : Bool × DWaiter × Bool × List DWaiter :=
  bif comesE e (number, prio, 0, 0, ()) then (match e.1, e.2.1 with
    | true, x :: r => (decide (0 < r.length), x, true, r)
    | _, _ => (false, (0, 0, 0, 0, ()), false, queueL e.2.1 (number, prio, 0, 0, ())))
  else (false, (0, 0, 0, 0, ()), false, [])

theorem spec_EndpointSend_ok (e : DEndpoint) (w : DWaiter) (h : e.2.1.length ≤ 1048577) : spec_EndpointSend e w = some (sendE e w) := by
  unfold spec_EndpointSend spec_EndpointSendK sendE
  obtain ⟨s, xs, ⟨⟩⟩ := e
  simp only at h ⊢
  have em : (w.1, w.2.1, w.2.2.1, w.2.2.2.1, ()) = w := rfl
  simp only [em, comes_ok (s, xs, ()) w h, B7, queue_ok xs w h]
  cases comesE (s, xs, ()) w with
  | false => rfl
  | true =>
    cases s with
    | true => cases xs <;> rfl
    | false =>
      cases xs with
      | nil => rfl
      | cons x r =>
        simp only [List.length_cons] at h
        have hd : decide ((((x :: r).length : Nat) : Int) > 0) = true := by simp
        have hg : (x :: r)[0]? = some x := rfl
        simp only [Bool.not_true, Bool.not_false, cond_false, cond_true, hd, chk_pos (show 1 ≤ (x :: r).length by simp), getK_some hg, List.drop_succ_cons, List.drop_zero, chk_pos (show r.length ≤ bigRow by simp only [bigRow]; omega)]

theorem spec_EndpointTake_ok (e : DEndpoint) (n p : Int) (h : e.2.1.length ≤ 1048577) : spec_EndpointTake e n p = some (takeE e n p) := by
  unfold spec_EndpointTake spec_EndpointTakeK takeE
  have hv : validE e = true → e.1 = true → 0 < e.2.1.length := fun hv he => by
    rcases (validE_iff.1 hv).2.2.2 with q | q
    · exact q
    · rw [he] at q; cases q
  obtain ⟨s, xs, ⟨⟩⟩ := e
  simp only at h hv ⊢
  simp only [comes_ok (s, xs, ()) (n, p, 0, 0, ()) h, B7, queue_ok xs (n, p, 0, 0, ()) h]
  cases hc : comesE (s, xs, ()) (n, p, 0, 0, ()) with
  | false => rfl
  | true =>
    have hv1 : validE (s, xs, ()) = true := by
      unfold comesE at hc
      simp only [Bool.and_eq_true] at hc
      exact hc.1
    cases s with
    | false => cases xs <;> rfl
    | true =>
      cases xs with
      | nil => exact absurd (hv hv1 rfl) (by simp)
      | cons x r =>
        simp only [List.length_cons] at h
        have hg : (x :: r)[0]? = some x := rfl
        have em : (x.1, x.2.1, x.2.2.1, x.2.2.2.1, ()) = x := rfl
        have hd : decide ((((x :: r).length : Nat) : Int) > 1) = decide (0 < r.length) := by
          rw [Bool.eq_iff_iff, decide_eq_true_eq, decide_eq_true_eq]
          simp only [List.length_cons]
          omega
        simp only [Bool.not_true, cond_false, cond_true, hd, chk_pos (show 1 ≤ (x :: r).length by simp), getK_some hg, List.drop_succ_cons, List.drop_zero, chk_pos (show r.length ≤ bigRow by simp only [bigRow]; omega), em]

theorem sendE_length (e : DEndpoint) (w : DWaiter) : (sendE e w).2.2.length ≤ e.2.1.length + 1 := by
  unfold sendE
  cases comesE e w with
  | false => simp
  | true =>
    simp only [cond_true]
    split
    · rename_i h; rw [h]; simp; omega
    · simp only [queueL_length]; omega

theorem takeE_length (e : DEndpoint) (n p : Int) : (takeE e n p).2.2.2.length ≤ e.2.1.length + 1 := by
  unfold takeE
  cases comesE e (n, p, 0, 0, ()) with
  | false => simp
  | true =>
    simp only [cond_true]
    split
    · rename_i h; rw [h]; simp; omega
    · simp only [queueL_length]; omega

/-! ### what is drawn -/

theorem l20Waiter_ok (n : Int) (b : Dl20Rd) {m : Int} (h : rdOk b m) (hm : m ≤ 100000) (hn : 0 ≤ n) : ∃ w b', spec_l20Waiter n b = some (w, b') ∧ rdOk b' (m + 7) := by
  unfold spec_l20Waiter spec_l20WaiterK
  obtain ⟨r1, b1, d1, h10, h11, hb1⟩ := pickE 16 b h (by omega) (by omega)
  obtain ⟨r2, b2, d2, h20, h21, hb2⟩ := pickE 4 b1 hb1 (by omega) (by omega)
  obtain ⟨r3, b3, d3, h30, h31, hb3⟩ := pickE 9 b2 hb2 (by omega) (by omega)
  obtain ⟨r4, b4, d4, h40, h41, hb4⟩ := pickE 50 b3 hb3 (by omega) (by omega)
  obtain ⟨c, b5, d5, hb5⟩ := oddE n b4 hb4 (by omega) hn
  simp only [d1, d2, d3, d4, d5, B7]
  cases c with
  | false => exact ⟨_, b5, rfl, hb5.mono (by omega)⟩
  | true =>
    obtain ⟨r6, b6, d6, h60, h61, hb6⟩ := pickE 3 b5 hb5 (by omega) (by omega)
    obtain ⟨r7, b7, d7, h70, h71, hb7⟩ := pickE 2 b6 hb6 (by omega) (by omega)
    simp only [cond_true, d6, d7, B7, nnK_pos h70]
    rw [getK_lt (show r7.toNat < [(-1 : Int), (16 : Int)].length by simp; omega), getK_lt (show r7.toNat < [(-1 : Int), (8 : Int)].length by simp; omega), getK_lt (show r7.toNat < [(-1 : Int), (1000 : Int)].length by simp; omega)]
    cases (r6 == (0 : Int)) with
    | true => exact ⟨_, b7, rfl, hb7.mono (by omega)⟩
    | false => cases (r6 == (1 : Int)) <;> exact ⟨_, b7, rfl, hb7.mono (by omega)⟩

theorem end_loop (n way : Int) (o1 : Bool) (o2 : List DWaiter) : ∀ (k : Nat) (b : Dl20Rd) (s : Bool) (xs : List DWaiter), xs.length + k ≤ 10 → rdOk b (1000 - 10 * (k : Int)) →
    ∃ b' s' xs', loopF spec_l20Endpoint_l0 (n, way, (k : Int), b, o1, s, o2, xs, ()) = some (n, b', o1, s', o2, xs', ()) ∧ rdOk b' 1000 ∧ xs'.length ≤ 10 := by
  intro k
  induction k with
  | zero =>
    intro b s xs hl hb
    exact ⟨b, s, xs, loopF_inr rfl, hb.mono (by omega), by omega⟩
  | succ k ih =>
    intro b s xs hl hb
    obtain ⟨w, b1, d1, hb1⟩ := l20Waiter_ok 0 b hb (by omega) (by omega)
    have hd : decide (((k + 1 : Nat) : Int) > 0) = true := by simp
    have hw : IntKind.wrap .i64 (((k + 1 : Nat) : Int) - 1) = (k : Int) := by rw [wrap64 (by omega) (by omega)]; omega
    have em : (w.1, w.2.1, w.2.2.1, w.2.2.2.1, ()) = w := rfl
    have hxl : xs.length ≤ 1048577 := by omega
    cases hh : (xs.any fun x => decide (x.1 = w.1)) with
    | true =>
      have hst : spec_l20Endpoint_l0 (n, way, ((k + 1 : Nat) : Int), b, o1, s, o2, xs, ()) = some (.inl (n, way, (k : Int), b1, o1, s, o2, xs, ())) := by
        simp only [spec_l20Endpoint_l0, spec_l20Endpoint_l0K, hd, cond_true, d1, B7, has_ok (s, xs, ()) w.1 hxl, hh, hw]
      rw [loopF_inl hst]
      exact ih b1 s xs (by omega) (hb1.mono (by omega))
    | false =>
      cases hwy : (way == (0 : Int)) with
      | true =>
        have hst : spec_l20Endpoint_l0 (n, way, ((k + 1 : Nat) : Int), b, o1, s, o2, xs, ()) = some (.inl (n, way, (k : Int), b1, o1, (sendE (s, xs, ()) w).1, o2, (sendE (s, xs, ()) w).2.2, ())) := by
          simp only [spec_l20Endpoint_l0, spec_l20Endpoint_l0K, hd, cond_true, d1, B7, has_ok (s, xs, ()) w.1 hxl, hh, hw, cond_false, hwy, em, spec_EndpointSend_ok (s, xs, ()) w hxl]
        rw [loopF_inl hst]
        have := sendE_length (s, xs, ()) w
        exact ih b1 _ _ (by simp only at this; omega) (hb1.mono (by omega))
      | false =>
        have hst : spec_l20Endpoint_l0 (n, way, ((k + 1 : Nat) : Int), b, o1, s, o2, xs, ()) = some (.inl (n, way, (k : Int), b1, o1, (takeE (s, xs, ()) w.1 w.2.1).1, o2, (takeE (s, xs, ()) w.1 w.2.1).2.2.2, ())) := by
          simp only [spec_l20Endpoint_l0, spec_l20Endpoint_l0K, hd, cond_true, d1, B7, has_ok (s, xs, ()) w.1 hxl, hh, hw, cond_false, hwy, spec_EndpointTake_ok (s, xs, ()) w.1 w.2.1 hxl]
        rw [loopF_inl hst]
        have := takeE_length (s, xs, ()) w.1 w.2.1
        exact ih b1 _ _ (by simp only at this; omega) (hb1.mono (by omega))

theorem l20Endpoint_ok (n : Int) (b : Dl20Rd) (hn : 0 ≤ n) (hb : rdOk b 10) : ∃ s b' xs, spec_l20Endpoint n b = some (s, b', xs) ∧ rdOk b' 2000 ∧ xs.length ≤ 12 := by
  unfold spec_l20Endpoint spec_l20EndpointK
  obtain ⟨r1, b1, d1, h10, h11, hb1⟩ := pickE 2 b hb (by omega) (by omega)
  obtain ⟨r2, b2, d2, h20, h21, hb2⟩ := pickE 8 b1 hb1 (by omega) (by omega)
  obtain ⟨k, rfl⟩ : ∃ k : Nat, r2 = (k : Int) := ⟨r2.toNat, by omega⟩
  obtain ⟨b3, s, xs, e3, hb3, hl⟩ := end_loop n r1 false [] k b2 false [] (by simp; omega) (hb2.mono (by omega))
  obtain ⟨c, b4, d4, hb4⟩ := oddE n b3 hb3 (by omega) hn
  simp only [d1, d2, B7, e3, d4]
  cases c with
  | false => exact ⟨_, b4, xs, rfl, hb4.mono (by omega), by omega⟩
  | true =>
    obtain ⟨r5, b5, d5, h50, h51, hb5⟩ := pickE 3 b4 hb4 (by omega) (by omega)
    simp only [cond_true, d5, B7, chk_pos (show xs.length + 2 ≤ bigRow by simp only [bigRow]; omega), chk_pos (show xs.length + 1 ≤ bigRow by simp only [bigRow]; omega)]
    cases (r5 == (0 : Int)) with
    | true => exact ⟨_, b5, _, rfl, hb5.mono (by omega), by simp; omega⟩
    | false =>
      cases (r5 == (1 : Int)) with
      | true => exact ⟨_, b5, _, rfl, hb5.mono (by omega), by simp; omega⟩
      | false => exact ⟨_, b5, [], rfl, hb5.mono (by omega), by simp⟩

theorem DrawEndpointCancel_ok (code : List Int) (hc : ∀ x ∈ code, 0 ≤ x ∧ x ≤ 255) : ∃ s n xs, spec_DrawEndpointCancel code = some (s, n, xs) ∧ xs.length ≤ 12 := by
  unfold spec_DrawEndpointCancel spec_DrawEndpointCancelK
  obtain ⟨b, e, hb⟩ := openE code hc
  obtain ⟨s, b1, xs, e1, hb1, hl⟩ := l20Endpoint_ok 12 b (by omega) (hb.mono (by omega))
  obtain ⟨r2, b2, d2, h20, h21, hb2⟩ := pickE 16 b1 hb1 (by omega) (by omega)
  simp only [e, e1, B7, d2]
  by_cases h0 : ((xs.length : Int) > 0)
  · obtain ⟨r3, b3, d3, h30, h31, hb3⟩ := pickE 2 b2 hb2 (by omega) (by omega)
    obtain ⟨r4, b4, d4, h40, h41, hb4⟩ := pickE (xs.length : Int) b3 hb3 (by omega) (by omega)
    have hlt : r4.toNat < xs.length := by omega
    simp only [decide_eq_true h0, cond_true, d3, B7, d4, nnK_pos h40, chk_pos hlt, getK_lt hlt]
    cases (r3 == (0 : Int)) <;> exact ⟨_, _, xs, rfl, hl⟩
  · simp only [decide_eq_false h0, cond_false]
    exact ⟨_, _, xs, rfl, hl⟩

/-! ### the law of cancelling -/

theorem alive_ok : laws_alive = some true := rfl

theorem sameEnd_ok (e : DEndpoint) (h : e.2.1.length ≤ 1048577) : laws_sameEnd e e = some true := by
  unfold laws_sameEnd laws_sameEndK
  have em : (e.1, e.2.1, ()) = e := rfl
  have hq : loopF laws_sameEnd_l0 (e, e, 0, ()) = some (.inl (e, e, ())) := by
    have := loop_list0 (nxt := laws_sameEnd_l0) e.2.1 (fun i (_ : Unit) => (e, e, (i : Int), ())) (fun _ _ _ => .inl ()) (fun _ => .inl (e, e, ())) ()
      (fun i x s hx => ?_) (fun s => ?_) (st := (e, e, 0, ())) rfl
    · rw [this]
      have : ∀ (r : List DWaiter) (i : Nat), goL (fun (_ : Nat) (_ : DWaiter) (_ : Unit) => (.inl () : Unit ⊕ ((DEndpoint × DEndpoint × Unit) ⊕ (Bool × Unit)))) (fun _ => .inl (e, e, ())) r i () = .inl (e, e, ()) := by
        intro r
        induction r with
        | nil => intro i; rfl
        | cons x r ih => intro i; exact ih (i + 1)
      rw [this]
    · have hl := get_lt hx
      simp only [laws_sameEnd_l0, laws_sameEnd_l0K, dec_lt hx, cond_true, nnK_nat, getK_some hx, wrapS (show i < 4611686018427387904 by omega), decide_true, Bool.and_self, Bool.not_true, cond_false, goTo_l]
    · simp only [laws_sameEnd_l0, laws_sameEnd_l0K, dec_nlt, cond_false]
  rw [em, hq]
  simp [endK]

theorem vE_filter {s : Bool} {xs : List DWaiter} (h : vE s xs) (p : DWaiter → Bool) : vE (s && decide (0 < (xs.filter p).length)) (xs.filter p) := by
  obtain ⟨h1, h2, h3, h4⟩ := h
  refine ⟨fun x hx => ?_, h2.filter p, h3.filter p, ?_⟩
  · obtain ⟨k1, k2⟩ := h1 x (List.mem_filter.1 hx).1
    refine ⟨k1, ?_⟩
    have hpos := List.length_pos_of_mem hx
    rcases k2 with k2 | k2
    · left; rw [k2, decide_eq_true hpos]; rfl
    · exact .inr k2
  · by_cases hpos : 0 < (xs.filter p).length
    · exact .inl hpos
    · right; rw [decide_eq_false hpos, Bool.and_false]

theorem FnEndpointCancel_law (code : List Int) (h : WfD (.cons (.sl (.int .u8)) .nil) (code, ())) : laws_FnEndpointCancel code = some true := by
  have hc : ∀ x ∈ code, 0 ≤ x ∧ x ≤ 255 := fun x hx => h.1.2 x hx
  unfold laws_FnEndpointCancel laws_FnEndpointCancelK
  by_cases hl : ((code.length : Int) > 1048576)
  · simp [hl]
  · obtain ⟨s, n, xs, hs, hl12⟩ := DrawEndpointCancel_ok code hc
    have hcl := cancE_length (s, xs, ()) n
    simp only at hcl
    simp only [hl, decide_false, cond_false, hs, B7, impl_EndpointCancel_ok (s, xs, ()) n (show xs.length ≤ 1048577 by omega), spec_EndpointCancel_ok (s, xs, ()) n (show xs.length ≤ 1048577 by omega), sameEnd_ok ((cancE (s, xs, ()) n).1, (cancE (s, xs, ()) n).2.2, ()) (show (cancE (s, xs, ()) n).2.2.length ≤ 1048577 by omega),
      Bool.not_true, Bool.not_false, cond_true, beq_self_eq_true, cond_false, spec_EndpointValid_ok (s, xs, ()) (show xs.length ≤ 1048577 by omega)]
    cases hv : validE (s, xs, ()) with
    | false =>
      have : cancE (s, xs, ()) n = (false, false, []) := by simp [cancE, hv]
      simp [this, alive_ok]
    | true =>
      have hve := validE_iff.1 hv
      have hcanc : cancE (s, xs, ()) n = (s && decide (0 < (xs.filter fun x => !decide (x.1 = n)).length), decide ((xs.filter fun x => !decide (x.1 = n)).length < xs.length), xs.filter fun x => !decide (x.1 = n)) := by simp [cancE, hv]
      have hvx : validE (s && decide (0 < (xs.filter fun x => !decide (x.1 = n)).length), (xs.filter fun x => !decide (x.1 = n)), ()) = true := validE_iff.2 (vE_filter hve _)
      have hff : ((xs.filter fun x => !decide (x.1 = n)).filter fun x => !decide (x.1 = n)) = xs.filter fun x => !decide (x.1 = n) := by simp
      have hone : (xs.filter fun x => !decide (x.1 = n)).length < xs.length → (xs.filter fun x => !decide (x.1 = n)).length = xs.length - 1 := by
        intro hlt
        cases hf : xs.findIdx? (fun x => decide (x.1 = n)) with
        | none =>
          have hfil : (xs.filter fun x => !decide (x.1 = n)) = xs := List.filter_eq_self.2 fun y hy => by
            have := List.findIdx?_eq_none_iff.1 hf y hy
            simpa using this
          rw [hfil] at hlt
          omega
        | some k =>
          obtain ⟨hk, hp, _⟩ := List.findIdx?_eq_some_iff_getElem.1 hf
          have hx : xs[k]? = some xs[k] := List.getElem?_eq_getElem hk
          have hn : (xs[k]).1 = n := by simpa using hp
          have hfil := filter_out hx (fun j y hj hy => valid_distinct hv hx hy hj)
          rw [hn] at hfil
          rw [hfil]
          simp; omega
      have hno : ¬ (xs.filter fun x => !decide (x.1 = n)).length < xs.length → (xs.filter fun x => !decide (x.1 = n)) = xs := fun hlt => by
        have := List.length_filter_le (fun x : DWaiter => !decide (x.1 = n)) xs
        exact List.filter_sublist.eq_of_length (by omega)
      rw [hcanc]
      rw [hcanc] at hcl
      simp only at hcl
      have hagain : cancE (s && decide (0 < (xs.filter fun x => !decide (x.1 = n)).length), (xs.filter fun x => !decide (x.1 = n)), ()) n = ((s && decide (0 < (xs.filter fun x => !decide (x.1 = n)).length)) && decide (0 < (xs.filter fun x => !decide (x.1 = n)).length), false, xs.filter fun x => !decide (x.1 = n)) := by
        simp only [cancE, hvx, cond_true, hff]
        simp
      simp only [Bool.not_true, cond_false, impl_EndpointCancel_ok (s && decide (0 < (xs.filter fun x => !decide (x.1 = n)).length), (xs.filter fun x => !decide (x.1 = n)), ()) n (show (xs.filter fun x => !decide (x.1 = n)).length ≤ 1048577 by omega), hagain, B7, Bool.not_false, cond_true,
        impl_EndpointValid_ok (s && decide (0 < (xs.filter fun x => !decide (x.1 = n)).length), (xs.filter fun x => !decide (x.1 = n)), ()) (show (xs.filter fun x => !decide (x.1 = n)).length ≤ 1048577 by omega), hvx]
      by_cases hlt : (xs.filter fun x => !decide (x.1 = n)).length < xs.length
      · have h1 := hone hlt
        have e1 : (((xs.filter fun x => !decide (x.1 = n)).length : Int) == IntKind.wrap .i64 ((xs.length : Int) - 1)) = true := by
          rw [wrap64 (by omega) (by omega), beq_iff_eq]; omega
        simp only [decide_eq_true hlt, cond_true, e1, Bool.not_true, cond_false]
      · have h1 := hno hlt
        have hs' : (s && decide (0 < xs.length)) = s := by
          rcases hve.2.2.2 with q | q
          · rw [decide_eq_true q, Bool.and_true]
          · have : s = false := q
            rw [this]; rfl
        have e1 : ((xs.length : Int) == IntKind.wrap .i64 ((xs.length : Int) - 0)) = true := by
          rw [wrap64 (by omega) (by omega), beq_iff_eq]; omega
        simp only [h1, Nat.lt_irrefl, decide_false, cond_false, Bool.not_false, cond_true, e1, hs', sameEnd_ok (s, xs, ()) (show xs.length ≤ 1048577 by omega), B7]


end Go.Ev
