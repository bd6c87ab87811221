/-
  Draws; new kernels: the law.
-/
import Derived.Test.YtlogfpbcogihkaaLaw6
namespace Go.Ev
set_option linter.unusedVariables false
set_option linter.unusedSimpArgs false
set_option maxRecDepth 100000
set_option synthInstance.maxSize 2000
set_option synthInstance.maxHeartbeats 400000

/-! ### draws -/

/-- a reader: bytes, no more than 2000, and how often it was asked -/
def rdOk (b : Dl20Rd) (m : Int) : Prop := b.1.length ≤ 2000 ∧ (∀ x ∈ b.1, 0 ≤ x ∧ x ≤ 255) ∧ 0 ≤ b.2.1 ∧ b.2.1 ≤ m

theorem wrapU {x : Int} (h : 0 ≤ x) (h1 : x < 18446744073709551616) : IntKind.wrap .u64 x = x := by
  simp [IntKind.wrap, IntKind.bits, IntKind.signed]
  omega

theorem draw_ok (n : Int) (b : Dl20Rd) {m : Int} (h : rdOk b m) (hm : m ≤ 1000000000) (hn : 1 ≤ n) : ∃ r, spec_l20Rd_pick n b = some (r, (b.1, b.2.1 + 1, ())) ∧ 0 ≤ r ∧ r < n := by
  obtain ⟨h1, h2, h3, h4⟩ := h
  unfold spec_l20Rd_pick spec_l20Rd_pickK
  have e0 : decide (n < 1) = false := decide_eq_false (by omega)
  simp only [e0, Bool.not_false, cond_true]
  rw [wrap64 (n := b.2.1 + 1) (by omega) (by omega), wrap64 (n := b.2.1 + 1 - 1) (by omega) (by omega), show b.2.1 + 1 - 1 = b.2.1 from by omega]
  by_cases hz : (b.1.length : Int) = 0
  · simp [hz]; omega
  · have e1 : ((b.1.length : Int) == 0) = false := by simpa using hz
    simp only [e1, cond_false]
    by_cases hlt : b.2.1 < (b.1.length : Int)
    · have hl : b.2.1.toNat < b.1.length := by omega
      have hv := h2 b.1[b.2.1.toNat] (List.getElem_mem hl)
      simp only [hlt, decide_true, cond_true, nnK_pos h3]
      rw [getK_lt hl, chk_pos (by omega), wrap64 (n := b.1[b.2.1.toNat]) (by omega) (by omega), Int.tmod_eq_emod_of_nonneg (by omega)]
      exact ⟨_, rfl, Int.emod_nonneg _ (by omega), Int.emod_lt_of_pos _ (by omega)⟩
    · simp only [hlt, decide_false, cond_false]
      have hp : (0 : Int) < (b.1.length : Int) := by omega
      rw [chk_pos hz, Int.tmod_eq_emod_of_nonneg (a := b.2.1) h3]
      have g1 := Int.emod_nonneg b.2.1 hz
      have g2 := Int.emod_lt_of_pos b.2.1 hp
      rw [nnK_pos g1, getK_lt (show (b.2.1 % (b.1.length : Int)).toNat < b.1.length by omega), chk_pos hz, wrap64 (n := b.2.1 * 7) (by omega) (by omega), wrap64 (n := b.2.1 * 7 + 3) (by omega) (by omega), Int.tmod_eq_emod_of_nonneg (a := b.2.1 * 7 + 3) (by omega)]
      have g3 := Int.emod_nonneg (b.2.1 * 7 + 3) hz
      have g4 := Int.emod_lt_of_pos (b.2.1 * 7 + 3) hp
      rw [nnK_pos g3, getK_lt (show ((b.2.1 * 7 + 3) % (b.1.length : Int)).toNat < b.1.length by omega), chk_pos hz, chk_pos (show n ≠ 0 by omega)]
      have hv := h2 _ (List.getElem_mem (show (b.2.1 % (b.1.length : Int)).toNat < b.1.length by omega))
      have hw := h2 _ (List.getElem_mem (show ((b.2.1 * 7 + 3) % (b.1.length : Int)).toNat < b.1.length by omega))
      generalize b.1[(b.2.1 % (b.1.length : Int)).toNat]'(by omega) = v at hv
      generalize b.1[((b.2.1 * 7 + 3) % (b.1.length : Int)).toNat]'(by omega) = w at hw
      have hq1 : 0 ≤ Int.tdiv b.2.1 (b.1.length : Int) := by rw [Int.tdiv_eq_ediv_of_nonneg h3]; exact Int.ediv_nonneg h3 (by omega)
      have hq2 : Int.tdiv b.2.1 (b.1.length : Int) ≤ b.2.1 := by rw [Int.tdiv_eq_ediv_of_nonneg h3]; exact Int.ediv_le_self _ h3
      generalize Int.tdiv b.2.1 (b.1.length : Int) = q at hq1 hq2
      rw [wrap64 (n := v) (by omega) (by omega), wrap64 (n := v * 131) (by omega) (by omega), wrap64 (n := w) (by omega) (by omega), wrap64 (n := w * 1117) (by omega) (by omega), wrap64 (n := v * 131 + w * 1117) (by omega) (by omega), wrap64 (n := b.2.1 * 29) (by omega) (by omega),
        wrap64 (n := v * 131 + w * 1117 + b.2.1 * 29) (by omega) (by omega), wrap64 (n := q) (by omega) (by omega), wrap64 (n := q * 53) (by omega) (by omega), wrap64 (n := v * 131 + w * 1117 + b.2.1 * 29 + q * 53) (by omega) (by omega)]
      generalize hX : v * 131 + w * 1117 + b.2.1 * 29 + q * 53 = X
      have hX0 : 0 ≤ X ∧ X < 1000000000000 := by omega
      have hY : Int.tdiv X 64 = X / 64 := Int.tdiv_eq_ediv_of_nonneg hX0.1
      rw [hY, wrap64 (n := X / 64) (by omega) (by omega)]
      have hxor : (BitVec.ofInt 64 X ^^^ BitVec.ofInt 64 (X / 64)).toNat < 1099511627776 := by
        rw [BitVec.toNat_xor]
        have small : ∀ z : Int, 0 ≤ z → z < 1000000000000 → (BitVec.ofInt 64 z).toNat < 2 ^ 40 := fun z h0 h1 => by
          rw [BitVec.toNat_ofInt, Int.emod_eq_of_lt h0 (by show z < ((2 ^ 64 : Nat) : Int); omega)]
          omega
        exact Nat.xor_lt_two_pow (n := 40) (small X hX0.1 hX0.2) (small (X / 64) (by omega) (by omega))
      rw [wrap64 (by omega) (by omega), Int.tmod_eq_emod_of_nonneg (by omega)]
      exact ⟨_, rfl, Int.emod_nonneg _ (by omega), Int.emod_lt_of_pos _ (by omega)⟩

theorem rdOk.mono {b : Dl20Rd} {m m' : Int} (h : rdOk b m) (hm : m ≤ m') : rdOk b m' := ⟨h.1, h.2.1, h.2.2.1, Int.le_trans h.2.2.2 hm⟩

theorem pickE (n : Int) (b : Dl20Rd) {m : Int} (h : rdOk b m) (hm : m ≤ 1000000) (hn : 1 ≤ n) : ∃ r b', spec_l20Rd_pick n b = some (r, b') ∧ 0 ≤ r ∧ r < n ∧ rdOk b' (m + 1) := by
  obtain ⟨r, h1, h2, h3⟩ := draw_ok n b h (by omega) hn
  exact ⟨r, _, h1, h2, h3, h.1, h.2.1, by have := h.2.2.1; show 0 ≤ b.2.1 + 1; omega, by have := h.2.2.2; show b.2.1 + 1 ≤ m + 1; omega⟩

theorem oddE (n : Int) (b : Dl20Rd) {m : Int} (h : rdOk b m) (hm : m ≤ 1000000) (hn : 0 ≤ n) : ∃ c b', spec_l20Rd_odd n b = some (c, b') ∧ rdOk b' (m + 1) := by
  by_cases h0 : n = 0
  · subst h0
    exact ⟨false, b, rfl, h.mono (by omega)⟩
  · obtain ⟨r, b', h1, h2, h3, h4⟩ := pickE n b h hm (by omega)
    have hd : decide (n > 0) = true := decide_eq_true (by omega)
    refine ⟨r == IntKind.wrap .i64 (n - 1), b', ?_, h4⟩
    simp only [spec_l20Rd_odd, spec_l20Rd_oddK, hd, cond_true, h1, B7]

theorem openE (code : List Int) (hc : ∀ x ∈ code, 0 ≤ x ∧ x ≤ 255) : ∃ b, spec_l20Open code = some b ∧ rdOk b 0 := by
  unfold spec_l20Open spec_l20OpenK
  by_cases h : ((code.length : Int) > 2000)
  · simp only [h, decide_true, cond_true]
    rw [chk_pos (by omega)]
    exact ⟨_, rfl, by simp; omega, fun x hx => hc x (List.mem_of_mem_take hx), by simp, by simp⟩
  · simp only [h, decide_false, cond_false]
    exact ⟨_, rfl, by show code.length ≤ 2000; omega, hc, by simp, by simp⟩

/-- a number of a row of so many: what is there -/
theorem getE {γ α : Type} (xs : List α) {r : Int} (h0 : 0 ≤ r) (h1 : r < (xs.length : Int)) (K : α → Option γ) : ∃ x, x ∈ xs ∧ (nnK r fun i => getK xs i K) = K x := by
  rw [nnK_pos h0, getK_lt (show r.toNat < xs.length by omega)]
  exact ⟨_, List.getElem_mem _, rfl⟩


/-! ### new kernels: the law -/

theorem live_ok : laws_alive = some true := rfl

theorem sameInts_ok (xs : List Int) (h : xs.length ≤ 1048577) : laws_sameInts xs xs = some true := by
  unfold laws_sameInts laws_sameIntsK
  have e : ((xs.length : Int) != (xs.length : Int)) = false := by simp
  have hq : loopF laws_sameInts_l0 (xs, xs, 0, ()) = some (if xs = xs then .inl () else .inr (false, ())) := by
    refine loop_eq2 xs xs (fun i => (xs, xs, (i : Int), ())) _ _ rfl (fun i x y hx hy => ?_) ?_ rfl
    · have hl := get_lt hx
      simp only [laws_sameInts_l0, laws_sameInts_l0K, dec_lt hx, cond_true, nnK_nat, getK_some hx, getK_some hy, wrapS (show i < 4611686018427387904 by omega)]
      have e : x = y := by rw [hx] at hy; exact Option.some.inj hy
      subst e
      simp
    · simp only [laws_sameInts_l0, laws_sameInts_l0K, dec_nlt, cond_false]
  rw [e, cond_false, hq]
  simp [endK]

theorem sameTree_ok (xs : List DEntry) (h : xs.length ≤ 1048577) : laws_sameTree xs xs = some true := by
  unfold laws_sameTree laws_sameTreeK
  have e : ((xs.length : Int) != (xs.length : Int)) = false := by simp
  have hq : loopF laws_sameTree_l0 (xs, xs, 0, ()) = some (.inl ()) := by
    have := loop_list0 (nxt := laws_sameTree_l0) xs (fun i (_ : Unit) => (xs, xs, (i : Int), ())) (fun _ _ _ => .inl ()) (fun _ => .inl ()) ()
      (fun i x s hx => ?_) (fun s => ?_) (st := (xs, xs, 0, ())) rfl
    · rw [this]
      have : ∀ (r : List DEntry) (i : Nat), goL (fun (_ : Nat) (_ : DEntry) (_ : Unit) => (.inl () : Unit ⊕ (Unit ⊕ (Bool × Unit)))) (fun _ => .inl ()) r i () = .inl () := by
        intro r
        induction r with
        | nil => intro i; rfl
        | cons x r ih => intro i; exact ih (i + 1)
      rw [this]
    · have hl := get_lt hx
      simp only [laws_sameTree_l0, laws_sameTree_l0K, dec_lt hx, cond_true, nnK_nat, getK_some hx, wrapS (show i < 4611686018427387904 by omega), decide_true, Bool.and_self, beq_self_eq_true, Bool.not_true, cond_false, goTo_l]
    · simp only [laws_sameTree_l0, laws_sameTree_l0K, dec_nlt, cond_false]
  rw [e, cond_false, hq]
  simp [endK]

theorem sameKernel_ok (k : DKernel) (h1 : k.2.1.length ≤ 1048577) (h2 : k.2.2.1.length ≤ 1048577) : laws_sameKernel k k = some true := by
  unfold laws_sameKernel laws_sameKernelK
  simp [sameTree_ok _ h1, sameInts_ok _ h2]

theorem DrawNewKernel_ok (code : List Int) (hc : ∀ x ∈ code, 0 ≤ x ∧ x ≤ 255) : ∃ b n, spec_DrawNewKernel code = some (b, n) ∧ -1 ≤ b ∧ b ≤ 17 ∧ -1 ≤ n ∧ n ≤ 41 := by
  unfold spec_DrawNewKernel spec_DrawNewKernelK
  obtain ⟨b, e, hb⟩ := openE code hc
  obtain ⟨r1, b1, d1, h10, h11, hb1⟩ := pickE 19 b hb (by omega) (by omega)
  obtain ⟨r2, b2, d2, h20, h21, hb2⟩ := pickE 43 b1 hb1 (by omega) (by omega)
  simp only [e, d1, d2, B7]
  rw [wrap64 (n := r1 - 1) (by omega) (by omega), wrap64 (n := r2 - 1) (by omega) (by omega)]
  exact ⟨_, _, rfl, by omega, by omega, by omega, by omega⟩

theorem pl_empty (n : Nat) (h : n ≤ 40) : plV (List.replicate n (-1)) = true := by
  unfold plV
  rw [Bool.and_eq_true, all_zip0 (p := fun i v => plOk (List.replicate n (-1)) i v)]
  refine ⟨fun i x hx => ?_, by simpa using h⟩
  have := List.eq_of_mem_replicate (List.mem_of_getElem? hx)
  subst this
  rfl

theorem kern_new {b n : Int} (hb : 0 ≤ b ∧ b ≤ 16) (hn : 0 ≤ n ∧ n ≤ 40) : kernV ((0, b, 0, ()), [], List.replicate n.toNat (-1), 0, ()) = true := by
  obtain ⟨s1, s2, s3⟩ := szP_range hb.1 hb.2
  unfold kernV
  have h1 : pieceV (0, b, 0, ()) = true := by
    unfold pieceV
    simp only [rgt, Bool.and_eq_true, decide_eq_true_eq]
    simp
    omega
  have h3 := pl_empty n.toNat (by omega)
  have h4 : ((List.replicate n.toNat (-1 : Int)).any fun n => decide (n ≥ (([] : List DEntry).length : Int))) = false := by
    rw [List.any_eq_false]
    intro x hx
    have := List.eq_of_mem_replicate hx
    subst this
    decide
  simp only [h1, h3, h4, Bool.true_and]
  rfl

theorem revoke_new {b n : Int} (hb : 0 ≤ b ∧ b ≤ 16) (hn : 0 ≤ n ∧ n ≤ 40) : impl_SysRevoke ((0, b, 0, ()), [], List.replicate n.toNat (-1), 0, ()) 0 = some (kSt ((0, b, 0, ()), [], List.replicate n.toNat (-1), 0, ()) 1) := by
  unfold impl_SysRevoke impl_SysRevokeK
  first
    | unfold impl_removing impl_removingK
    | unfold impl_removing_v2 impl_removing_v2K
  have h2 : (List.replicate n.toNat (-1 : Int)).length ≤ 1048577 := by simp; omega
  have hv := kern_new hb hn
  have hh : (slotIn (List.replicate n.toNat (-1)) 0 && decide ((List.replicate n.toNat (-1 : Int)).getD (0 : Int).toNat 0 ≥ 0)) = false := by
    cases hs : slotIn (List.replicate n.toNat (-1)) 0 with
    | false => rfl
    | true =>
      obtain ⟨_, h⟩ := slotIn_iff.1 hs
      rw [Bool.true_and]
      have hm := List.eq_of_mem_replicate (List.getElem_mem h)
      have : (List.replicate n.toNat (-1 : Int)).getD (0 : Int).toNat 0 = -1 := by simp only [List.getD, List.getElem?_eq_getElem h, Option.getD_some]; exact hm
      rw [this]; rfl
  rw [impl_KernelValid_ok _ (show ([] : List DEntry).length ≤ 1048577 by simp) h2, hv]
  simp only [B7, Bool.not_true, cond_false]
  rw [copyOf_ok _ (show ([] : List DEntry).length ≤ 1048577 by simp) h2]
  simp only [B7]
  rw [has_ok _ 0 h2]
  simp only [B7, hh, Bool.not_false, cond_true]
  rfl

theorem FnNewKernel_law (code : List Int) (h : WfD (.cons (.sl (.int .u8)) .nil) (code, ())) : laws_FnNewKernel code = some true := by
  have hc : ∀ x ∈ code, 0 ≤ x ∧ x ≤ 255 := fun x hx => h.1.2 x hx
  unfold laws_FnNewKernel laws_FnNewKernelK
  by_cases hl : ((code.length : Int) > 1048576)
  · simp [hl]
  · obtain ⟨b, n, hs, hb0, hb1, hn0, hn1⟩ := DrawNewKernel_ok code hc
    obtain ⟨g1, g2⟩ := newK_len b n
    simp only [hl, decide_false, cond_false, hs, B7, impl_NewKernel_ok, spec_NewKernel_ok, sameKernel_ok (((newK b n).1, (newK b n).2.1, (newK b n).2.2.1, ()), (newK b n).2.2.2.2.1, (newK b n).2.2.2.2.2, (newK b n).2.2.2.1, ()) (show (newK b n).2.2.2.2.1.length ≤ 1048577 by omega) (show (newK b n).2.2.2.2.2.length ≤ 1048577 by omega), Bool.not_true]
    by_cases hin : (0 ≤ b ∧ b ≤ 16) ∧ (0 ≤ n ∧ n ≤ 40)
    · have e1 : decide (b < 0) = false := decide_eq_false (by omega)
      have e2 : decide (b > 16) = false := decide_eq_false (by omega)
      have e3 : decide (n < 0) = false := decide_eq_false (by omega)
      have e4 : decide (n > 40) = false := decide_eq_false (by omega)
      have hk : newK b n = (0, b, 0, 0, [], List.replicate n.toNat (-1)) := by
        have : (rgt b 0 16 && rgt n 0 40) = true := by simp only [rgt, Bool.and_eq_true, decide_eq_true_eq]; omega
        simp [newK, this]
      simp only [e1, e2, e3, e4, Bool.not_false, cond_true, cond_false, hk, revoke_new hin.1 hin.2, B7, impl_KernelValid_ok ((0, b, 0, ()), [], List.replicate n.toNat (-1), 0, ()) (show ([] : List DEntry).length ≤ 1048577 by simp) (show (List.replicate n.toNat (-1 : Int)).length ≤ 1048577 by simp; omega), kern_new hin.1 hin.2, List.length_replicate, kSt]
      have e5 : ((n.toNat : Int) == n) = true := by rw [beq_iff_eq]; omega
      rw [e5]
      rfl
    · have hk : newK b n = (0, 0, 0, 0, [], []) := by
        have : (rgt b 0 16 && rgt n 0 40) = false := by
          rw [← Bool.not_eq_true]
          intro q
          simp only [rgt, Bool.and_eq_true, decide_eq_true_eq] at q
          exact hin q
        simp [newK, this]
      have hz := sameKernel_ok ((0, 0, 0, ()), [], [], 0, ()) (by simp) (by simp)
      simp only [hk, hz, B7, cond_true, live_ok, cond_false]
      by_cases c1 : b < 0
      · simp [c1]
      · by_cases c2 : b > 16
        · simp [c1, c2]
        · by_cases c3 : n < 0
          · simp [c1, c2, c3]
          · have c4 : n > 40 := by omega
            simp [c1, c2, c3, c4]


end Go.Ev
