/-
  Rows of whole numbers and of entries; capabilities, derivations, places; kernels.
-/
import Derived.Test.YtlogfpbcogihkaaDefs
import Derived.Test.YtlogfpbcogihkaaEv4
namespace Go.Ev
set_option linter.unusedVariables false
set_option linter.unusedSimpArgs false
set_option maxRecDepth 100000
set_option synthInstance.maxSize 2000
set_option synthInstance.maxHeartbeats 400000
/-- in a range -/
theorem in_ok (n lo hi : Int) : impl_in n lo hi = some (decide (lo ≤ n) && decide (n ≤ hi)) := by
  unfold impl_in impl_inK
  by_cases h : n ≥ lo
  · have h' : lo ≤ n := h
    simp [h, h']
  · have h' : ¬ lo ≤ n := h
    simp [h, h']

theorem l1In_ok (n lo hi : Int) : spec_l1In n lo hi = some (decide (lo ≤ n) && decide (n ≤ hi)) := by
  unfold spec_l1In spec_l1InK
  by_cases h : n ≥ lo
  · have h' : lo ≤ n := h
    simp [h, h']
  · have h' : ¬ lo ≤ n := h
    simp [h, h']


/-- the first element that is wanted -/
theorem goL_find {α τ : Type} (p : α → Bool) (G : Nat → τ) (N : τ) : ∀ (r : List α) (i : Nat), goL (fun i x (_ : Unit) => bif p x then .inr (G i) else .inl ()) (fun _ => N) r i () = match r.findIdx? p with | some j => G (i + j) | none => N
  | [], _ => rfl
  | x :: r, i => by
    simp only [goL, List.findIdx?_cons]
    cases h : p x with
    | true => simp
    | false =>
      simp only [cond_false, Bool.false_eq_true, if_false]
      rw [goL_find p G N r (i + 1)]
      cases r.findIdx? p with
      | none => rfl
      | some j => simp only [Option.map_some]; congr 1; omega

theorem take_over {α : Type} (xs ys : List α) {n : Nat} (h : n ≤ xs.length) : (over xs n ys).take n = xs.take n := by
  unfold over
  rw [List.append_assoc, List.take_append_of_le_length (by simp; omega), List.take_take, Nat.min_self]

theorem take_over' {α : Type} (xs ys : List α) {n : Nat} (h : n ≤ xs.length) : (over xs n ys).take (n + ys.length) = xs.take n ++ ys := by
  unfold over
  rw [List.take_append_of_le_length (by simp; omega), List.take_of_length_le (by simp; omega)]

theorem over_len {α : Type} (xs ys : List α) (n : Nat) (h : n + ys.length ≤ xs.length) : (over xs n ys).length = xs.length := by
  simp [over]; omega


theorem toIntS_ok (xs : List Int) (h : xs.length ≤ 1048577) : laws_toIntS xs = some xs := by
  have hl : loopF laws_toIntS_l0 (xs, 0, List.replicate xs.length 0, ()) = some (xs.map id, ()) := by
    refine loop_map xs id (fun i s => (xs, (i : Int), s, ())) (fun s => (s, ())) _ (by simp) (fun i x s hs hx => ?_) (fun s hs => ?_) rfl
    · have hl := get_lt hx
      simp only [laws_toIntS_l0, laws_toIntS_l0K, dec_lt hx, cond_true, nnK_nat, getK_some hx, B7]
      rw [chk_pos (by omega), getK_lt (by omega), wrapS (by omega)]
      rfl
    · simp only [laws_toIntS_l0, laws_toIntS_l0K, dec_nlt, cond_false]
  unfold laws_toIntS laws_toIntSK
  rw [chk_pos (by simp [bigRow]; omega), hl]
  simp

theorem eqIntS_ok (xs ys : List Int) (h : xs.length ≤ 1048577) : laws_eqIntS xs ys = some (decide (xs = ys)) := by
  unfold laws_eqIntS laws_eqIntSK
  by_cases hl : xs.length = ys.length
  · have e : ((xs.length : Int) != (ys.length : Int)) = false := by simp [hl]
    have hq : loopF laws_eqIntS_l0 (xs, ys, 0, ()) = some (if xs = ys then .inl () else .inr (false, ())) := by
      refine loop_eq2 xs ys (fun i => (xs, ys, (i : Int), ())) _ _ hl (fun i x y hx hy => ?_) ?_ rfl
      · have hl := get_lt hx
        simp only [laws_eqIntS_l0, laws_eqIntS_l0K, dec_lt hx, cond_true, nnK_nat, getK_some hx, getK_some hy, B7, wrapS (show i < 4611686018427387904 by omega)]
        by_cases e : x = y
        · simp [e]
        · have : (x != y) = true := bne_iff_ne.mpr e
          simp [e, this]
      · simp only [laws_eqIntS_l0, laws_eqIntS_l0K, dec_nlt, cond_false]
    rw [e, cond_false, hq]
    by_cases h : xs = ys <;> simp [h, endK]
  · have e : ((xs.length : Int) != (ys.length : Int)) = true := by simp; omega
    rw [e, cond_true]
    have : ¬ xs = ys := fun e => hl (by rw [e])
    simp [this]

def EInt (k : Int) : Int := k

theorem markIntS_ok (xs : List Int) (k : Int) (hk : 0 ≤ k) (hK : k + 1 * (xs.length : Int) ≤ 1000000000000) : laws_markIntS k xs = some (k + 1 * (xs.length : Int), marks EInt 1 xs.length k) := by
  have : loopF laws_markIntS_l0 (k, 0, xs, ()) = some (k + (1 : Nat) * xs.length, marks EInt 1 xs.length k, ()) := by
    refine loop_mark EInt 1 (fun i k s => (k, (i : Int), s, ())) (fun k s => (k, s, ())) xs k 1000000000000 hk hK (fun i k s hk hkK hs hi => ?_) (fun k s hs => ?_) rfl
    · have hi' : i < s.length := by omega
      have hd : decide ((i : Int) < (s.length : Int)) = true := by simp; omega
      have w1 : IntKind.wrap .i64 (k + 1) = k + 1 := wrap64 (by omega) (by omega)
      have ws : IntKind.wrap .i64 ((i : Int) + 1) = (i : Int) + 1 := wrap64 (by omega) (by omega)
      simp [laws_markIntS_l0, laws_markIntS_l0K, hd, nnK_nat, chk, getK, hi', w1, ws, EInt, Int.add_assoc]
    · have hd : decide ((xs.length : Int) < (s.length : Int)) = false := by simp; omega
      simp only [laws_markIntS_l0, laws_markIntS_l0K, hd, cond_false]
  unfold laws_markIntS laws_markIntSK
  rw [this]
  rfl

theorem heldIntS_ok (n : Nat) (k : Int) (hk : 0 ≤ k) (hK : k + 1 * (n : Int) ≤ 1000000000000) (hn : n ≤ 1048577) : laws_heldIntS (marks EInt 1 n k) k = some (k + 1 * (n : Int)) := by
  have : loopF laws_heldIntS_l0 (marks EInt 1 n k, k, 0, ()) = some (.inl (k + (1 : Nat) * n, ())) := by
    refine loop_held (nxt := laws_heldIntS_l0) EInt 1 n k (fun i k' => (marks EInt 1 n k, k', (i : Int), ())) (fun k => Sum.inl (k, ())) 1000000000000 hk hK (fun i k' hk hkK hx => ?_) (fun k => ?_) rfl
    · have hl := get_lt hx
      rw [marks_length] at hl
      have w1 : IntKind.wrap .i64 (k' + 1) = k' + 1 := wrap64 (by omega) (by omega)
      have ws : IntKind.wrap .i64 ((i : Int) + 1) = (i : Int) + 1 := wrap64 (by omega) (by omega)
      simp [laws_heldIntS_l0, laws_heldIntS_l0K, get_lt hx, nnK_nat, getK_some hx, w1, ws, EInt, bneI, Int.add_assoc]
    · simp [laws_heldIntS_l0, laws_heldIntS_l0K, marks_length]
  unfold laws_heldIntS laws_heldIntSK
  rw [this]
  rfl


theorem toCap_ok (a : DCap) : laws_toCap a = some a := rfl

theorem toEntry_ok (a : DEntry) : laws_toEntry a = some a := rfl

theorem eqCap_ok (a b : DCap) : laws_eqCap a b = some (decide (a = b)) := by
  obtain ⟨a0, a1, a2, a3, ⟨⟩⟩ := a
  obtain ⟨b0, b1, b2, b3, ⟨⟩⟩ := b
  unfold laws_eqCap laws_eqCapK
  by_cases h0 : a0 = b0 <;> by_cases h1 : a1 = b1 <;> by_cases h2 : a2 = b2 <;> by_cases h3 : a3 = b3 <;> simp [h0, h1, h2, h3, bneI]

theorem eqEntry_ok (a b : DEntry) : laws_eqEntry a b = some (decide (a = b)) := by
  obtain ⟨a0, a1, a2, ⟨⟩⟩ := a
  obtain ⟨b0, b1, b2, ⟨⟩⟩ := b
  unfold laws_eqEntry laws_eqEntryK
  have ea : (a0.1, a0.2.1, a0.2.2.1, a0.2.2.2.1, ()) = a0 := rfl
  have eb : (b0.1, b0.2.1, b0.2.2.1, b0.2.2.2.1, ()) = b0 := rfl
  simp only [ea, eb, eqCap_ok]
  by_cases h0 : a0 = b0 <;> by_cases h1 : a1 = b1 <;> by_cases h2 : a2 = b2 <;> simp [h0, h1, h2, bneI, beqB]

theorem toEntryS_ok (xs : List DEntry) (h : xs.length ≤ 1048577) : laws_toEntryS xs = some xs := by
  have hl : loopF laws_toEntryS_l0 (xs, 0, List.replicate xs.length ((0, 0, 0, 0, ()), 0, false, ()), ()) = some (xs.map id, ()) := by
    refine loop_map xs id (fun i s => (xs, (i : Int), s, ())) (fun s => (s, ())) _ (by simp) (fun i x s hs hx => ?_) (fun s hs => ?_) rfl
    · have hl := get_lt hx
      simp only [laws_toEntryS_l0, laws_toEntryS_l0K, dec_lt hx, cond_true, nnK_nat, getK_some hx, toEntry_ok, B7]
      rw [chk_pos (by omega), getK_lt (by omega), wrapS (by omega)]
      rfl
    · simp only [laws_toEntryS_l0, laws_toEntryS_l0K, dec_nlt, cond_false]
  unfold laws_toEntryS laws_toEntrySK
  rw [chk_pos (by simp [bigRow]; omega), hl]
  simp

theorem eqEntryS_ok (xs ys : List DEntry) (h : xs.length ≤ 1048577) : laws_eqEntryS xs ys = some (decide (xs = ys)) := by
  unfold laws_eqEntryS laws_eqEntrySK
  by_cases hl : xs.length = ys.length
  · have e : ((xs.length : Int) != (ys.length : Int)) = false := by simp [hl]
    have hq : loopF laws_eqEntryS_l0 (xs, ys, 0, ()) = some (if xs = ys then .inl () else .inr (false, ())) := by
      refine loop_eq2 xs ys (fun i => (xs, ys, (i : Int), ())) _ _ hl (fun i x y hx hy => ?_) ?_ rfl
      · have hl := get_lt hx
        simp only [laws_eqEntryS_l0, laws_eqEntryS_l0K, dec_lt hx, cond_true, nnK_nat, getK_some hx, getK_some hy, eqEntry_ok, B7, wrapS (show i < 4611686018427387904 by omega)]
        by_cases e : x = y
        · simp [e]
        · have : decide (x = y) = false := decide_eq_false e
          simp [e, this]
      · simp only [laws_eqEntryS_l0, laws_eqEntryS_l0K, dec_nlt, cond_false]
    rw [e, cond_false, hq]
    by_cases h : xs = ys <;> simp [h, endK]
  · have e : ((xs.length : Int) != (ys.length : Int)) = true := by simp; omega
    rw [e, cond_true]
    have : ¬ xs = ys := fun e => hl (by rw [e])
    simp [this]

def EEntry (k : Int) : DEntry := ((k, k + 1, k + 1 + 1, k + 1 + 1 + 1, ()), k + 1 + 1 + 1 + 1, (Int.tmod (k + 1 + 1 + 1 + 1 + 1) 3 == 0), ())

theorem markEntryS_ok (xs : List DEntry) (k : Int) (hk : 0 ≤ k) (hK : k + 6 * (xs.length : Int) ≤ 1000000000000) : laws_markEntryS k xs = some (k + 6 * (xs.length : Int), marks EEntry 6 xs.length k) := by
  have : loopF laws_markEntryS_l0 (k, 0, xs, ()) = some (k + (6 : Nat) * xs.length, marks EEntry 6 xs.length k, ()) := by
    refine loop_mark EEntry 6 (fun i k s => (k, (i : Int), s, ())) (fun k s => (k, s, ())) xs k 1000000000000 hk hK (fun i k s hk hkK hs hi => ?_) (fun k s hs => ?_) rfl
    · have hi' : i < s.length := by omega
      have hd : decide ((i : Int) < (s.length : Int)) = true := by simp; omega
      have w1 : IntKind.wrap .i64 (k + 1) = k + 1 := wrap64 (by omega) (by omega)
      have w2 : IntKind.wrap .i64 (k + 2) = k + 2 := wrap64 (by omega) (by omega)
      have w3 : IntKind.wrap .i64 (k + 3) = k + 3 := wrap64 (by omega) (by omega)
      have w4 : IntKind.wrap .i64 (k + 4) = k + 4 := wrap64 (by omega) (by omega)
      have w5 : IntKind.wrap .i64 (k + 5) = k + 5 := wrap64 (by omega) (by omega)
      have w6 : IntKind.wrap .i64 (k + 6) = k + 6 := wrap64 (by omega) (by omega)
      have ws : IntKind.wrap .i64 ((i : Int) + 1) = (i : Int) + 1 := wrap64 (by omega) (by omega)
      simp [laws_markEntryS_l0, laws_markEntryS_l0K, hd, nnK_nat, chk, getK, hi', w1, w2, w3, w4, w5, w6, ws, EEntry, Int.add_assoc]
    · have hd : decide ((xs.length : Int) < (s.length : Int)) = false := by simp; omega
      simp only [laws_markEntryS_l0, laws_markEntryS_l0K, hd, cond_false]
  unfold laws_markEntryS laws_markEntrySK
  rw [this]
  rfl

theorem heldEntryS_ok (n : Nat) (k : Int) (hk : 0 ≤ k) (hK : k + 6 * (n : Int) ≤ 1000000000000) (hn : n ≤ 1048577) : laws_heldEntryS (marks EEntry 6 n k) k = some (k + 6 * (n : Int)) := by
  have : loopF laws_heldEntryS_l0 (marks EEntry 6 n k, k, 0, ()) = some (.inl (k + (6 : Nat) * n, ())) := by
    refine loop_held (nxt := laws_heldEntryS_l0) EEntry 6 n k (fun i k' => (marks EEntry 6 n k, k', (i : Int), ())) (fun k => Sum.inl (k, ())) 1000000000000 hk hK (fun i k' hk hkK hx => ?_) (fun k => ?_) rfl
    · have hl := get_lt hx
      rw [marks_length] at hl
      have w1 : IntKind.wrap .i64 (k' + 1) = k' + 1 := wrap64 (by omega) (by omega)
      have w2 : IntKind.wrap .i64 (k' + 2) = k' + 2 := wrap64 (by omega) (by omega)
      have w3 : IntKind.wrap .i64 (k' + 3) = k' + 3 := wrap64 (by omega) (by omega)
      have w4 : IntKind.wrap .i64 (k' + 4) = k' + 4 := wrap64 (by omega) (by omega)
      have w5 : IntKind.wrap .i64 (k' + 5) = k' + 5 := wrap64 (by omega) (by omega)
      have w6 : IntKind.wrap .i64 (k' + 6) = k' + 6 := wrap64 (by omega) (by omega)
      have ws : IntKind.wrap .i64 ((i : Int) + 1) = (i : Int) + 1 := wrap64 (by omega) (by omega)
      simp [laws_heldEntryS_l0, laws_heldEntryS_l0K, get_lt hx, nnK_nat, getK_some hx, w1, w2, w3, w4, w5, w6, ws, EEntry, bneI, Int.add_assoc]
    · simp [laws_heldEntryS_l0, laws_heldEntryS_l0K, marks_length]
  unfold laws_heldEntryS laws_heldEntrySK
  rw [this]
  rfl


/-- a capability is in order -/
def rgt (a lo hi : Int) : Bool := decide (lo ≤ a) && decide (a ≤ hi)
def capGood (c : DCap) : Bool :=
  bif decide (c.1 = 0) then decide (c.2.1 = 0) && (decide (c.2.2.1 = 0) && decide (c.2.2.2.1 = 0))
  else rgt c.1 1 7 && (rgt c.2.1 0 99 && (rgt c.2.2.1 0 15 && (decide (c.2.2.2.1 = 0) || ((decide (c.1 = 4) || decide (c.1 = 5)) && rgt c.2.2.2.1 0 999))))

theorem impl_CapValid_ok (c : DCap) : impl_CapValid c = some (capGood c) := by
  obtain ⟨c0, c1, c2, c3, ⟨⟩⟩ := c
  unfold impl_CapValid impl_CapValidK capGood
  simp only [impl_isObject, impl_isObjectK, impl_RightsValid, impl_RightsValidK, impl_badged, impl_badgedK, in_ok, B7, beqI, rgt]
  generalize (decide (1 ≤ c0) && decide (c0 ≤ 7)) = b1
  generalize (decide (0 ≤ c1) && decide (c1 ≤ 99)) = b2
  generalize (decide (0 ≤ c2) && decide (c2 ≤ 15)) = b3
  generalize (decide (0 ≤ c3) && decide (c3 ≤ 999)) = b4
  generalize decide (c0 = 0) = b5
  generalize decide (c3 = 0) = b6
  generalize decide (c0 = 4) = b7
  generalize decide (c0 = 5) = b8
  generalize decide (c1 = 0) = b9
  generalize decide (c2 = 0) = b10
  cases b1 <;> cases b2 <;> cases b3 <;> cases b4 <;> cases b5 <;> cases b6 <;> cases b7 <;> cases b8 <;> simp

theorem spec_CapValid_ok (c : DCap) : spec_CapValid c = some (capGood c) := by
  obtain ⟨c0, c1, c2, c3, ⟨⟩⟩ := c
  unfold spec_CapValid spec_CapValidK capGood
  simp only [spec_RightsValid, spec_RightsValidK, spec_l2Badged, spec_l2BadgedK, l1In_ok, B7, beqI, rgt]
  generalize (decide (1 ≤ c0) && decide (c0 ≤ 7)) = b1
  generalize (decide (0 ≤ c1) && decide (c1 ≤ 99)) = b2
  generalize (decide (0 ≤ c2) && decide (c2 ≤ 15)) = b3
  generalize (decide (0 ≤ c3) && decide (c3 ≤ 999)) = b4
  generalize decide (c0 = 0) = b5
  generalize decide (c3 = 0) = b6
  generalize decide (c0 = 4) = b7
  generalize decide (c0 = 5) = b8
  generalize decide (c1 = 0) = b9
  generalize decide (c2 = 0) = b10
  cases b1 <;> cases b2 <;> cases b3 <;> cases b4 <;> cases b5 <;> cases b6 <;> cases b7 <;> cases b8 <;> simp

/-! ### capabilities within others -/

def withinC (a b : DCap) : Bool :=
  capGood a && (capGood b && (decide (a.1 = b.1) && (decide (a.2.1 = b.2.1) && (decide (IntKind.wrap .i64 (((BitVec.ofInt 64 a.2.2.1 &&& BitVec.ofInt 64 b.2.2.1).toNat : Int)) = a.2.2.1) && (decide (a.2.2.2.1 = b.2.2.2.1) || decide (b.2.2.2.1 = 0))))))

theorem spec_CapWithin_ok (a b : DCap) : spec_CapWithin a b = some (withinC a b) := by
  unfold spec_CapWithin spec_CapWithinK withinC
  have ea : (a.1, a.2.1, a.2.2.1, a.2.2.2.1, ()) = a := rfl
  have eb : (b.1, b.2.1, b.2.2.1, b.2.2.2.1, ()) = b := rfl
  simp only [ea, eb, spec_CapValid_ok, B7, beqI]
  generalize capGood a = b1
  generalize capGood b = b2
  generalize decide (a.1 = b.1) = b3
  generalize decide (a.2.1 = b.2.1) = b4
  generalize decide (IntKind.wrap .i64 (((BitVec.ofInt 64 a.2.2.1 &&& BitVec.ofInt 64 b.2.2.1).toNat : Int)) = a.2.2.1) = b5
  generalize decide (a.2.2.2.1 = b.2.2.2.1) = b6
  cases b1 <;> cases b2 <;> cases b3 <;> cases b4 <;> cases b5 <;> cases b6 <;> rfl

theorem rights_and : ∀ a b : Fin 16, decide (IntKind.wrap .i64 (((BitVec.ofInt 64 (a.val : Int) &&& BitVec.ofInt 64 (b.val : Int)).toNat : Int)) = (a.val : Int)) = decide (IntKind.wrap .i64 (((BitVec.ofInt 64 (a.val : Int) &&& ~~~(BitVec.ofInt 64 (b.val : Int))).toNat : Int)) = 0) := by decide

theorem capV_rights {c : DCap} (h : capGood c = true) : 0 ≤ c.2.2.1 ∧ c.2.2.1 ≤ 15 := by
  unfold capGood rgt at h
  by_cases h0 : c.1 = 0
  · simp [h0] at h; omega
  · simp [h0] at h; omega

theorem impl_CapWithin_ok (a b : DCap) : impl_CapWithin a b = some (withinC a b) := by
  unfold impl_CapWithin impl_CapWithinK withinC
  have ea : (a.1, a.2.1, a.2.2.1, a.2.2.2.1, ()) = a := rfl
  have eb : (b.1, b.2.1, b.2.2.1, b.2.2.2.1, ()) = b := rfl
  simp only [ea, eb, impl_CapValid_ok, B7, beqI]
  cases ha : capGood a with
  | false => rfl
  | true =>
    cases hb : capGood b with
    | false => rfl
    | true =>
      have h1 := capV_rights ha
      have h2 := capV_rights hb
      have := rights_and ⟨a.2.2.1.toNat, by omega⟩ ⟨b.2.2.1.toNat, by omega⟩
      simp only [Int.toNat_of_nonneg h1.1, Int.toNat_of_nonneg h2.1] at this
      rw [← this]
      generalize decide (a.1 = b.1) = b3
      generalize decide (a.2.1 = b.2.1) = b4
      generalize decide (IntKind.wrap .i64 (((BitVec.ofInt 64 a.2.2.1 &&& BitVec.ofInt 64 b.2.2.1).toNat : Int)) = a.2.2.1) = b5
      generalize decide (a.2.2.2.1 = b.2.2.2.1) = b6
      cases b3 <;> cases b4 <;> cases b5 <;> cases b6 <;> rfl

/-! ### derivations -/

def e0 : DEntry := ((0, 0, 0, 0, ()), 0, false, ())
def entOk (d : List DEntry) (i : Nat) (v : DEntry) : Bool :=
  capGood v.1 && (!decide (v.1.1 = 0) && (rgt v.2.1 (-1) ((i : Int) - 1) && ((v.2.2.1 || !decide (v.2.1 ≥ 0)) || (!(d.getD v.2.1.toNat e0).2.2.1 && withinC v.1 (d.getD v.2.1.toNat e0).1))))
def derV (d : List DEntry) : Bool := d.zipIdx.all (fun p => entOk d p.2 p.1) && decide (d.length ≤ 30)

theorem wrapP (i : Nat) (h : i < 4611686018427387904) : IntKind.wrap .i64 ((i : Int) - 1) = (i : Int) - 1 := wrap64 (by omega) (by omega)

theorem eget_of {d : List DEntry} {i : Nat} (h : i < d.length) : d[i]? = some (d.getD i e0) := by simp [List.getD, h]

theorem impl_DerivationValid_ok (d : List DEntry) (h : d.length ≤ 1048577) : impl_DerivationValid d = some (derV d) := by
  unfold impl_DerivationValid impl_DerivationValidK derV
  have : loopF impl_DerivationValid_l0 (d, d, (d.length : Int), 0, ()) = some _ := loop_list0 (nxt := impl_DerivationValid_l0) d (fun i (_ : Unit) => (d, d, (d.length : Int), (i : Int), ())) (fun i x _ => bif entOk d i x then .inl () else .inr (.inr (false, ()))) (fun _ => .inl (d, ())) ()
    (fun i x s hx => ?_) (fun s => ?_) rfl
  · rw [this, goL_all (fun i x => entOk d i x)]
    cases (d.zipIdx.all fun q => entOk d q.2 q.1) with
    | false => simp [endK]
    | true => simp [endK]; omega
  · have hl := get_lt hx
    have em : (x.1.1, x.1.2.1, x.1.2.2.1, x.1.2.2.2.1, ()) = x.1 := rfl
    simp only [impl_DerivationValid_l0, impl_DerivationValid_l0K, dec_lt hx, cond_true, nnK_nat, getK_some hx, B7, wrapS (show i < 4611686018427387904 by omega), goTo_if, goTo_l, goTo_r, em, impl_CapValid_ok, in_ok, wrapP i (by omega), beqI, entOk, rgt]
    cases capGood x.1 with
    | false => rfl
    | true =>
      cases decide (x.1.1 = 0) with
      | true => rfl
      | false =>
        by_cases hr : -1 ≤ x.2.1 ∧ x.2.1 ≤ (i : Int) - 1
        · have e1 : (decide (-1 ≤ x.2.1) && decide (x.2.1 ≤ (i : Int) - 1)) = true := by simp [hr.1, hr.2]
          simp only [e1]
          cases x.2.2.1 with
          | true => rfl
          | false =>
            by_cases hp : x.2.1 ≥ 0
            · have hlt : x.2.1.toNat < d.length := by omega
              simp only [hp, decide_true, Bool.not_true, Bool.not_false, cond_true, cond_false, nnK_pos hp, getK_some (eget_of hlt), impl_CapWithin_ok, B7, Bool.true_and, Bool.false_or, Bool.or_false]
              cases (d.getD x.2.1.toNat e0).2.2.1 <;> cases withinC x.1 (d.getD x.2.1.toNat e0).1 <;> rfl
            · simp only [hp, decide_false]; rfl
        · have e1 : (decide (-1 ≤ x.2.1) && decide (x.2.1 ≤ (i : Int) - 1)) = false := by simp; omega
          simp only [e1]; rfl
  · simp only [impl_DerivationValid_l0, impl_DerivationValid_l0K, dec_nlt, cond_false]

theorem spec_DerivationValid_ok (d : List DEntry) (h : d.length ≤ 1048577) : spec_DerivationValid d = some (derV d) := by
  unfold spec_DerivationValid spec_DerivationValidK derV
  have : loopF spec_DerivationValid_l0 (d, 0, ()) = some _ := loop_list0 (nxt := spec_DerivationValid_l0) d (fun i (_ : Unit) => (d, (i : Int), ())) (fun i x _ => bif entOk d i x then .inl () else .inr (.inr (false, ()))) (fun _ => .inl (d, ())) ()
    (fun i x s hx => ?_) (fun s => ?_) rfl
  · rw [this, goL_all (fun i x => entOk d i x)]
    cases (d.zipIdx.all fun q => entOk d q.2 q.1) with
    | false => simp [endK]
    | true => simp [endK]; omega
  · have hl := get_lt hx
    simp only [spec_DerivationValid_l0, spec_DerivationValid_l0K, dec_lt hx, cond_true, nnK_nat, getK_some hx, B7, wrapS (show i < 4611686018427387904 by omega), goTo_if, goTo_l, goTo_r, spec_CapValid_ok, l1In_ok, wrapP i (by omega), beqI, entOk, rgt]
    cases capGood x.1 with
    | false => rfl
    | true =>
      cases decide (x.1.1 = 0) with
      | true => rfl
      | false =>
        by_cases hr : -1 ≤ x.2.1 ∧ x.2.1 ≤ (i : Int) - 1
        · have e1 : (decide (-1 ≤ x.2.1) && decide (x.2.1 ≤ (i : Int) - 1)) = true := by simp [hr.1, hr.2]
          simp only [e1]
          by_cases hp : x.2.1 ≥ 0
          · have hlt : x.2.1.toNat < d.length := by omega
            simp only [hp, decide_true, Bool.not_true, Bool.not_false, cond_true, cond_false, nnK_pos hp, getK_some (eget_of hlt), spec_CapWithin_ok, B7, Bool.true_and, Bool.false_or, Bool.or_false]
            cases x.2.2.1 <;> cases (d.getD x.2.1.toNat e0).2.2.1 <;> cases withinC x.1 (d.getD x.2.1.toNat e0).1 <;> rfl
          · simp only [hp, decide_false]
            cases x.2.2.1 <;> rfl
        · have e1 : (decide (-1 ≤ x.2.1) && decide (x.2.1 ≤ (i : Int) - 1)) = false := by simp; omega
          simp only [e1]; rfl
  · simp only [spec_DerivationValid_l0, spec_DerivationValid_l0K, dec_nlt, cond_false]

/-! ### places -/

def noneI (xs : List Int) (i : Nat) (n : Int) : Bool := (xs.take i).all fun x => !decide (x = n)
def plOk (xs : List Int) (i : Nat) (v : Int) : Bool := rgt v (-1) 29 && (!decide (v ≥ 0) || noneI xs i v)
def plV (xs : List Int) : Bool := xs.zipIdx.all (fun p => plOk xs p.2 p.1) && decide (xs.length ≤ 40)

def ixI (xs : List Int) (n : Int) : Int := match xs.findIdx? (fun x => decide (x = n)) with | some j => (j : Int) | none => -1

theorem Index_ok (xs : List Int) (n : Int) (h : xs.length ≤ 1048577) : slices_Index_int xs n = some (ixI xs n) := by
  unfold slices_Index_int slices_Index_intK ixI
  have : loopF slices_Index_int_l0 (xs, n, (xs.length : Int), 0, ()) = some _ := loop_list0 (nxt := slices_Index_int_l0) xs (fun i (_ : Unit) => (xs, n, (xs.length : Int), (i : Int), ())) (fun i x _ => bif decide (x = n) then .inr (.inr ((i : Int), ())) else .inl ()) (fun _ => .inl ()) ()
    (fun i x s hx => ?_) (fun s => ?_) rfl
  · rw [this, goL_find (fun x : Int => decide (x = n)) (fun i => (.inr ((i : Int), ()) : Unit ⊕ (Int × Unit))) (.inl ())]
    cases xs.findIdx? (fun x => decide (x = n)) <;> simp [endK]
  · have hl := get_lt hx
    have e : decide (n = x) = decide (x = n) := by rw [Bool.eq_iff_iff]; simp [eq_comm]
    simp only [slices_Index_int_l0, slices_Index_int_l0K, dec_lt hx, cond_true, nnK_nat, getK_some hx, B7, wrapS (show i < 4611686018427387904 by omega), goTo_if, goTo_l, goTo_r, beqI, e]
    cases decide (x = n) <;> rfl
  · simp only [slices_Index_int_l0, slices_Index_int_l0K, dec_nlt, cond_false]

def hasI (xs : List Int) (n : Int) : Bool := xs.any fun x => decide (x = n)

theorem ixI_has (xs : List Int) (n : Int) : decide (ixI xs n ≥ 0) = hasI xs n := by
  unfold ixI hasI
  rw [Bool.eq_iff_iff, decide_eq_true_iff]
  cases hf : xs.findIdx? (fun x => decide (x = n)) with
  | none =>
    have := List.findIdx?_eq_none_iff.1 hf
    simp only [List.any_eq_true]
    constructor
    · intro h; omega
    · rintro ⟨x, hx, hd⟩; rw [this x hx] at hd; cases hd
  | some j =>
    obtain ⟨hj, hp, _⟩ := List.findIdx?_eq_some_iff_getElem.1 hf
    simp only [List.any_eq_true]
    exact ⟨fun _ => ⟨_, List.getElem_mem hj, hp⟩, fun _ => by omega⟩

theorem Contains_ok (xs : List Int) (n : Int) (h : xs.length ≤ 1048577) : slices_Contains_int xs n = some (hasI xs n) := by
  unfold slices_Contains_int slices_Contains_intK
  rw [Index_ok xs n h]
  simp only [B7, ixI_has]

theorem has_none (xs : List Int) (i : Nat) (n : Int) : hasI (xs.take i) n = !noneI xs i n := by
  unfold hasI noneI
  rw [List.not_all_eq_any_not]
  simp

theorem impl_PlacesValid_ok (xs : List Int) (h : xs.length ≤ 1048577) : impl_PlacesValid xs = some (plV xs) := by
  unfold impl_PlacesValid impl_PlacesValidK plV
  have : loopF impl_PlacesValid_l0 (xs, xs, (xs.length : Int), 0, ()) = some _ := loop_list0 (nxt := impl_PlacesValid_l0) xs (fun i (_ : Unit) => (xs, xs, (xs.length : Int), (i : Int), ())) (fun i x _ => bif plOk xs i x then .inl () else .inr (.inr (false, ()))) (fun _ => .inl (xs, ())) ()
    (fun i x s hx => ?_) (fun s => ?_) rfl
  · rw [this, goL_all (fun i x => plOk xs i x)]
    cases (xs.zipIdx.all fun q => plOk xs q.2 q.1) with
    | false => simp [endK]
    | true => simp [endK]; omega
  · have hl := get_lt hx
    simp only [impl_PlacesValid_l0, impl_PlacesValid_l0K, dec_lt hx, cond_true, nnK_nat, getK_some hx, B7, wrapS (show i < 4611686018427387904 by omega), goTo_if, goTo_l, goTo_r, in_ok, plOk, rgt]
    rw [chk_pos (by omega), Contains_ok _ _ (by simp; omega), has_none]
    simp only [B7]
    generalize (decide (-1 ≤ x) && decide (x ≤ 29)) = b1
    generalize decide (x ≥ 0) = b2
    generalize noneI xs i x = b3
    cases b1 <;> cases b2 <;> cases b3 <;> rfl
  · simp only [impl_PlacesValid_l0, impl_PlacesValid_l0K, dec_nlt, cond_false]

theorem all_take (xs : List Int) (i : Nat) (p : Int → Bool) : ((xs.take i).zipIdx.all fun q => p q.1) = (xs.take i).all p := by
  rw [Bool.eq_iff_iff, all_zip0 (p := fun _ => p), List.all_eq_true]
  exact ⟨fun h x hx => by obtain ⟨i, hi⟩ := List.getElem?_of_mem hx; exact h i x hi, fun h i x hx => h x (List.mem_of_getElem? hx)⟩

theorem places_inner (xs : List Int) (i : Nat) (x : Int) (hx : xs[i]? = some x) (h : xs.length ≤ 1048577) : loopF spec_PlacesValid_l2 (xs, (i : Int), 0, ()) = some (bif (!decide (x ≥ 0) || noneI xs i x) then .inl (xs, (i : Int), ()) else .inr (false, ())) := by
  have hi := get_lt hx
  have hlen : (xs.take i).length = i := by simp; omega
  have := loop_list0 (nxt := spec_PlacesValid_l2) (xs.take i) (fun j (_ : Unit) => (xs, (i : Int), (j : Int), ())) (fun _ y _ => bif (!decide (x ≥ 0) || !decide (y = x)) then .inl () else .inr (.inr (false, ()))) (fun _ => .inl (xs, (i : Int), ())) ()
    (fun j y s hy => ?_) (fun s => ?_) (st := (xs, (i : Int), 0, ())) rfl
  · rw [this, goL_all (fun _ (y : Int) => (!decide (x ≥ 0) || !decide (y = x))), all_take xs i (fun y => (!decide (x ≥ 0) || !decide (y = x)))]
    congr 1
    unfold noneI
    cases decide (x ≥ 0) with
    | false =>
      have : ((xs.take i).all fun _ => true) = true := by simp
      simp only [Bool.not_false, Bool.true_or, this]
    | true => simp
  · have hj := get_lt hy
    rw [hlen] at hj
    have hy' : xs[j]? = some y := by rw [List.getElem?_take, if_pos hj] at hy; exact hy
    have hd : decide ((j : Int) < (i : Int)) = true := by simp; omega
    simp only [spec_PlacesValid_l2, spec_PlacesValid_l2K, hd, cond_true, nnK_nat, getK_some hy', getK_some hx, wrapS (show j < 4611686018427387904 by omega), goTo_if, goTo_l, goTo_r, beqI]
    cases decide (x ≥ 0) <;> cases decide (y = x) <;> rfl
  · rw [hlen]
    simp only [spec_PlacesValid_l2, spec_PlacesValid_l2K, dec_nlt, cond_false]

theorem spec_PlacesValid_ok (xs : List Int) (h : xs.length ≤ 1048577) : spec_PlacesValid xs = some (plV xs) := by
  unfold spec_PlacesValid spec_PlacesValidK plV
  have : loopF spec_PlacesValid_l0 (xs, 0, ()) = some _ := loop_list0 (nxt := spec_PlacesValid_l0) xs (fun i (_ : Unit) => (xs, (i : Int), ())) (fun i x _ => bif plOk xs i x then .inl () else .inr (.inr (false, ()))) (fun _ => .inl (xs, ())) ()
    (fun i x s hx => ?_) (fun s => ?_) rfl
  · rw [this, goL_all (fun i x => plOk xs i x)]
    cases (xs.zipIdx.all fun q => plOk xs q.2 q.1) with
    | false => simp [endK]
    | true => simp [endK]; omega
  · have hl := get_lt hx
    simp only [spec_PlacesValid_l0, spec_PlacesValid_l0K, dec_lt hx, cond_true, nnK_nat, getK_some hx, B7, goTo_if, goTo_l, goTo_r, l1In_ok, places_inner xs i x hx h, plOk, rgt]
    generalize (decide (-1 ≤ x) && decide (x ≤ 29)) = b1
    generalize (!decide (x ≥ 0) || noneI xs i x) = b2
    cases b1 <;> cases b2 <;> simp [endK, wrapS (show i < 4611686018427387904 by omega)]
  · simp only [spec_PlacesValid_l0, spec_PlacesValid_l0K, dec_nlt, cond_false]

theorem FindPlace_ok (xs : List Int) (n : Int) (h : xs.length ≤ 1048577) : spec_FindPlace xs n = some (bif decide (n ≥ 0) && plV xs then ixI xs n else -1) := by
  unfold spec_FindPlace spec_FindPlaceK ixI
  have := loop_list0 (nxt := spec_FindPlace_l0) xs (fun i (_ : Unit) => (xs, n, (i : Int), ())) (fun i x _ => bif decide (n ≥ 0) && plV xs then (bif decide (x = n) then .inr (.inr ((i : Int), ())) else .inl ()) else .inr (.inl ())) (fun _ => .inl ()) ()
    (fun i x s hx => ?_) (fun s => ?_) (st := (xs, n, 0, ())) rfl
  · rw [this]
    cases (decide (n ≥ 0) && plV xs) with
    | false => cases xs <;> simp [goL, endK]
    | true =>
      simp only [cond_true]
      rw [goL_find (fun x : Int => decide (x = n)) (fun i => (.inr ((i : Int), ()) : Unit ⊕ (Int × Unit))) (.inl ())]
      cases xs.findIdx? (fun x => decide (x = n)) <;> simp [endK]
  · have hl := get_lt hx
    simp only [spec_FindPlace_l0, spec_FindPlace_l0K, dec_lt hx, cond_true, nnK_nat, getK_some hx, B7, wrapS (show i < 4611686018427387904 by omega), goTo_if, goTo_l, goTo_r, beqI, spec_PlacesValid_ok xs h]
    cases decide (n ≥ 0) <;> cases plV xs <;> cases decide (x = n) <;> rfl
  · simp only [spec_FindPlace_l0, spec_FindPlace_l0K, dec_nlt, cond_false]


/-! ### pieces -/

def szP (n : Int) : Int := IntKind.wrap .i64 ((1 : Int) * 2 ^ (min n.toNat 64))

theorem szP_range {n : Int} (h0 : 0 ≤ n) (h1 : n ≤ 16) : 1 ≤ szP n ∧ szP n ≤ 65536 ∧ szP n = ((2 ^ n.toNat : Nat) : Int) := by
  have : ∀ m : Fin 17, 1 ≤ szP (m.val : Int) ∧ szP (m.val : Int) ≤ 65536 ∧ szP (m.val : Int) = ((2 ^ (m.val : Int).toNat : Nat) : Int) := by decide
  have := this ⟨n.toNat, by omega⟩
  simpa only [Int.toNat_of_nonneg h0] using this

def pieceV (p : DPiece) : Bool :=
  rgt p.2.1 0 16 && (rgt p.1 0 (65536 - szP p.2.1) && (decide (Int.tmod p.1 (szP p.2.1) = 0) && rgt p.2.2.1 0 (szP p.2.1)))

theorem impl_PieceValid_ok (p : DPiece) : impl_PieceValid p = some (pieceV p) := by
  unfold impl_PieceValid impl_PieceValidK pieceV
  simp only [in_ok, B7, beqI, rgt, ← szP.eq_def]
  show (bif (decide (0 ≤ p.2.1) && decide (p.2.1 ≤ 16)) then chk (0 ≤ p.2.1) <| bif (decide (0 ≤ p.1) && decide (p.1 ≤ IntKind.wrap .i64 (65536 - szP p.2.1))) then chk (0 ≤ p.2.1) <| chk (szP p.2.1 ≠ 0) <| bif decide (Int.tmod p.1 (szP p.2.1) = 0) then chk (0 ≤ p.2.1) <| some (decide (0 ≤ p.2.2.1) && decide (p.2.2.1 ≤ szP p.2.1)) else some false else some false else some false) = _
  by_cases h : 0 ≤ p.2.1 ∧ p.2.1 ≤ 16
  · obtain ⟨h1, h2, _⟩ := szP_range h.1 h.2
    rw [chk_pos h.1, chk_pos h.1, chk_pos (by omega), chk_pos h.1, wrap64 (n := 65536 - szP p.2.1) (by omega) (by omega)]
    simp only [h.1, h.2, decide_true, Bool.and_self, cond_true, Bool.true_and]
    generalize (decide (0 ≤ p.1) && decide (p.1 ≤ 65536 - szP p.2.1)) = b1
    generalize decide (Int.tmod p.1 (szP p.2.1) = 0) = b2
    cases b1 <;> cases b2 <;> rfl
  · have : (decide (0 ≤ p.2.1) && decide (p.2.1 ≤ 16)) = false := by simp; omega
    simp only [this]; rfl

theorem spec_PieceValid_ok (p : DPiece) : spec_PieceValid p = some (pieceV p) := by
  unfold spec_PieceValid spec_PieceValidK pieceV
  simp only [l1In_ok, B7, beqI, rgt]
  show (bif (decide (0 ≤ p.2.1) && decide (p.2.1 ≤ 16)) then bif (decide (0 ≤ p.1) && decide (p.1 ≤ 65536)) then chk (0 ≤ p.2.1) <| chk (szP p.2.1 ≠ 0) <| bif decide (Int.tmod p.1 (szP p.2.1) = 0) then chk (0 ≤ p.2.1) <| bif decide (IntKind.wrap .i64 (p.1 + szP p.2.1) ≤ 65536) then chk (0 ≤ p.2.1) <| some (decide (0 ≤ p.2.2.1) && decide (p.2.2.1 ≤ szP p.2.1)) else some false else some false else some false else some false) = _
  by_cases h : 0 ≤ p.2.1 ∧ p.2.1 ≤ 16
  · obtain ⟨h1, h2, _⟩ := szP_range h.1 h.2
    rw [chk_pos h.1, chk_pos (show szP p.2.1 ≠ 0 by omega), chk_pos h.1, chk_pos h.1]
    simp only [h.1, h.2, decide_true, Bool.and_self, cond_true, Bool.true_and]
    by_cases hb : 0 ≤ p.1 ∧ p.1 ≤ 65536
    · rw [wrap64 (n := p.1 + szP p.2.1) (by omega) (by omega)]
      have e : decide (p.1 + szP p.2.1 ≤ 65536) = decide (p.1 ≤ 65536 - szP p.2.1) := by rw [Bool.eq_iff_iff]; simp; omega
      simp only [hb.1, hb.2, decide_true, Bool.and_self, cond_true, Bool.true_and, e]
      generalize decide (p.1 ≤ 65536 - szP p.2.1) = b1
      generalize decide (Int.tmod p.1 (szP p.2.1) = 0) = b2
      cases b1 <;> cases b2 <;> rfl
    · have e1 : (decide (0 ≤ p.1) && decide (p.1 ≤ 65536)) = false := by simp; omega
      have e2 : (decide (0 ≤ p.1) && decide (p.1 ≤ 65536 - szP p.2.1)) = false := by simp; omega
      simp only [e1, e2]; rfl
  · have : (decide (0 ≤ p.2.1) && decide (p.2.1 ≤ 16)) = false := by simp; omega
    simp only [this]; rfl

/-! ### kernels -/

def knOk (k : DKernel) (i : Nat) (v : DEntry) : Bool := !decide (hasI k.2.2.1 (i : Int) = v.2.2.1) && !decide (v.1.2.1 ≥ k.2.2.2.1)
def kernV (k : DKernel) : Bool :=
  pieceV k.1 && (derV k.2.1 && (plV k.2.2.1 && (rgt k.2.2.2.1 0 100 && (k.2.1.zipIdx.all (fun p => knOk k p.2 p.1) && !(k.2.2.1.any fun n => decide (n ≥ (k.2.1.length : Int)))))))

theorem ContainsFunc_ok (k : DKernel) (xs : List Int) (h : xs.length ≤ 1048577) : slices_ContainsFunc_int xs k = some (xs.any fun n => decide (n ≥ (k.2.1.length : Int))) := by
  unfold slices_ContainsFunc_int slices_ContainsFunc_intK slices_IndexFunc_int slices_IndexFunc_intK
  have : loopF slices_IndexFunc_int_l0 (xs, k, (xs.length : Int), 0, ()) = some _ := loop_list0 (nxt := slices_IndexFunc_int_l0) xs (fun i (_ : Unit) => (xs, k, (xs.length : Int), (i : Int), ())) (fun i x _ => bif decide (x ≥ (k.2.1.length : Int)) then .inr (.inr ((i : Int), ())) else .inl ()) (fun _ => .inl ()) ()
    (fun i x s hx => ?_) (fun s => ?_) rfl
  · rw [this, goL_find (fun x : Int => decide (x ≥ (k.2.1.length : Int))) (fun i => (.inr ((i : Int), ()) : Unit ⊕ (Int × Unit))) (.inl ())]
    cases hf : xs.findIdx? (fun x => decide (x ≥ (k.2.1.length : Int))) with
    | none =>
      have hn := List.findIdx?_eq_none_iff.1 hf
      have : (xs.any fun n => decide (n ≥ (k.2.1.length : Int))) = false := by
        rw [Bool.eq_false_iff]
        intro h
        obtain ⟨x, hx, hd⟩ := List.any_eq_true.1 h
        rw [hn x hx] at hd; cases hd
      rw [this]
      rfl
    | some j =>
      obtain ⟨hj, hp, _⟩ := List.findIdx?_eq_some_iff_getElem.1 hf
      have : (xs.any fun n => decide (n ≥ (k.2.1.length : Int))) = true := List.any_eq_true.2 ⟨_, List.getElem_mem hj, hp⟩
      rw [this]
      simp [endK]
  · have hl := get_lt hx
    simp only [slices_IndexFunc_int_l0, slices_IndexFunc_int_l0K, dec_lt hx, cond_true, nnK_nat, getK_some hx, impl_KernelValid_c1, impl_KernelValid_c1K, B7, wrapS (show i < 4611686018427387904 by omega), goTo_if, goTo_l, goTo_r]
    cases decide (x ≥ (k.2.1.length : Int)) <;> rfl
  · simp only [slices_IndexFunc_int_l0, slices_IndexFunc_int_l0K, dec_nlt, cond_false]

theorem impl_KernelValid_ok (k : DKernel) (h1 : k.2.1.length ≤ 1048577) (h2 : k.2.2.1.length ≤ 1048577) : impl_KernelValid k = some (kernV k) := by
  unfold impl_KernelValid impl_KernelValidK kernV
  have ep : (k.1.1, k.1.2.1, k.1.2.2.1, ()) = k.1 := rfl
  have ek : (k.1, k.2.1, k.2.2.1, k.2.2.2.1, ()) = k := rfl
  have : loopF impl_KernelValid_l0 (k, k.2.1, (k.2.1.length : Int), 0, ()) = some _ := loop_list0 (nxt := impl_KernelValid_l0) k.2.1 (fun i (_ : Unit) => (k, k.2.1, (k.2.1.length : Int), (i : Int), ())) (fun i x _ => bif knOk k i x then .inl () else .inr (.inr (false, ()))) (fun _ => .inl (k, ())) ()
    (fun i x s hx => ?_) (fun s => ?_) rfl
  · rw [ep, ek, this, goL_all (fun i x => knOk k i x), impl_PieceValid_ok, impl_DerivationValid_ok _ h1, impl_PlacesValid_ok _ h2]
    simp only [B7, in_ok, rgt]
    generalize (k.2.1.zipIdx.all fun q => knOk k q.2 q.1) = b5
    generalize pieceV k.1 = b1
    generalize derV k.2.1 = b2
    generalize plV k.2.2.1 = b3
    generalize (decide (0 ≤ k.2.2.2.1) && decide (k.2.2.2.1 ≤ 100)) = b4
    cases b1 <;> (try rfl) <;> cases b2 <;> (try rfl) <;> cases b3 <;> (try rfl) <;> cases b4 <;> (try rfl) <;> cases b5 <;> simp [endK, ContainsFunc_ok k _ h2]
  · have hl := get_lt hx
    simp only [impl_KernelValid_l0, impl_KernelValid_l0K, dec_lt hx, cond_true, nnK_nat, getK_some hx, B7, wrapS (show i < 4611686018427387904 by omega), goTo_if, goTo_l, goTo_r, Contains_ok _ _ h2, knOk, beqB]
    generalize decide (hasI k.2.2.1 (i : Int) = x.2.2.1) = b1
    generalize decide (x.1.2.1 ≥ k.2.2.2.1) = b2
    cases b1 <;> cases b2 <;> rfl
  · simp only [impl_KernelValid_l0, impl_KernelValid_l0K, dec_nlt, cond_false]

def kn1 (k : DKernel) (i : Nat) (v : DEntry) : Bool := (v.2.2.1 || decide ((bif plV k.2.2.1 then ixI k.2.2.1 (i : Int) else -1) ≥ 0)) && !decide (v.1.2.1 ≥ k.2.2.2.1)
def kn2 (k : DKernel) (n : Int) : Bool := !decide (n ≥ (k.2.1.length : Int)) && (!decide (n ≥ 0) || !(k.2.1.getD n.toNat e0).2.2.1)

theorem kn_same (k : DKernel) (hp : plV k.2.2.1 = true) : (k.2.1.zipIdx.all (fun p => kn1 k p.2 p.1) && k.2.2.1.all (kn2 k)) = (k.2.1.zipIdx.all (fun p => knOk k p.2 p.1) && !(k.2.2.1.any fun n => decide (n ≥ (k.2.1.length : Int)))) := by
  have hlow : ∀ n ∈ k.2.2.1, -1 ≤ n := fun n hn => by
    simp only [plV, Bool.and_eq_true] at hp
    obtain ⟨i, hi⟩ := List.getElem?_of_mem hn
    have := all_zip0.1 hp.1 i n hi
    simp only [plOk, rgt, Bool.and_eq_true, decide_eq_true_eq] at this
    exact this.1.1
  rw [Bool.eq_iff_iff]
  rw [Bool.and_eq_true, Bool.and_eq_true, all_zip0 (p := fun i v => kn1 k i v), all_zip0 (p := fun i v => knOk k i v), List.all_eq_true, Bool.not_eq_true', List.any_eq_false]
  simp only [kn1, knOk, kn2, Bool.and_eq_true, hp, cond_true, ixI_has, Bool.not_eq_true']
  constructor
  · rintro ⟨h1, h2⟩
    refine ⟨fun i v hv => ?_, fun n hn => by have := (h2 n hn).1; simpa using this⟩
    obtain ⟨h3, h4⟩ := h1 i v hv
    refine ⟨?_, h4⟩
    rw [decide_eq_false_iff_not]
    intro he
    cases hr : v.2.2.1 with
    | false =>
      rw [hr] at h3 he
      rw [he] at h3
      simp at h3
    | true =>
      rw [hr] at he
      obtain ⟨n, hn, hd⟩ := List.any_eq_true.1 he
      obtain rfl := of_decide_eq_true hd
      have := (h2 _ hn).2
      have hge : decide ((i : Int) ≥ 0) = true := by simp
      rw [hge] at this
      have hg : k.2.1.getD ((i : Int).toNat) e0 = v := by simp [List.getD, hv]
      rw [hg, hr] at this
      simp at this
  · rintro ⟨h1, h2⟩
    refine ⟨fun i v hv => ?_, fun n hn => ?_⟩
    · obtain ⟨h3, h4⟩ := h1 i v hv
      refine ⟨?_, h4⟩
      rw [decide_eq_false_iff_not] at h3
      cases hr : v.2.2.1 with
      | true => simp
      | false =>
        rw [hr] at h3
        cases hh : hasI k.2.2.1 (i : Int) with
        | true => simp
        | false => exact absurd hh h3
    · have hlt := h2 n hn
      simp only [decide_eq_true_eq] at hlt
      refine ⟨by simpa using hlt, ?_⟩
      by_cases hge : n ≥ 0
      · have hl : n.toNat < k.2.1.length := by omega
        have hv := eget_of hl
        obtain ⟨h3, _⟩ := h1 n.toNat _ hv
        rw [decide_eq_false_iff_not] at h3
        have hh : hasI k.2.2.1 ((n.toNat : Nat) : Int) = true := List.any_eq_true.2 ⟨n, hn, by simp; omega⟩
        rw [hh] at h3
        cases hr : (k.2.1.getD n.toNat e0).2.2.1 with
        | true => rw [hr] at h3; exact absurd rfl h3
        | false => simp
      · simp [hge]

theorem spec_KernelValid_ok (k : DKernel) (h1 : k.2.1.length ≤ 1048577) (h2 : k.2.2.1.length ≤ 1048577) : spec_KernelValid k = some (kernV k) := by
  unfold spec_KernelValid spec_KernelValidK kernV
  have ep : (k.1.1, k.1.2.1, k.1.2.2.1, ()) = k.1 := rfl
  have ek : (k.1, k.2.1, k.2.2.1, k.2.2.2.1, ()) = k := rfl
  have l0 : loopF spec_KernelValid_l0 (k, 0, ()) = some _ := loop_list0 (nxt := spec_KernelValid_l0) k.2.1 (fun i (_ : Unit) => (k, (i : Int), ())) (fun i x _ => bif kn1 k i x then .inl () else .inr (.inr (false, ()))) (fun _ => .inl (k, ())) ()
    (fun i x s hx => ?_) (fun s => ?_) rfl
  have l2 : loopF spec_KernelValid_l2 (k, 0, ()) = some _ := loop_list0 (nxt := spec_KernelValid_l2) k.2.2.1 (fun i (_ : Unit) => (k, (i : Int), ())) (fun i x _ => bif kn2 k x then .inl () else .inr (.inr (false, ()))) (fun _ => .inl ()) ()
    (fun i x s hx => ?_) (fun s => ?_) rfl
  · rw [ep, ek, l0, goL_all (fun i x => kn1 k i x), spec_PieceValid_ok, spec_DerivationValid_ok _ h1, spec_PlacesValid_ok _ h2]
    simp only [B7, l1In_ok, rgt]
    cases hp : plV k.2.2.1 with
    | false => cases pieceV k.1 <;> cases derV k.2.1 <;> rfl
    | true =>
      rw [← kn_same k hp]
      have e : (k.2.2.1.zipIdx.all fun q => kn2 k q.1) = k.2.2.1.all (kn2 k) := by
        rw [Bool.eq_iff_iff, all_zip0 (p := fun _ => kn2 k), List.all_eq_true]
        exact ⟨fun h x hx => by obtain ⟨i, hi⟩ := List.getElem?_of_mem hx; exact h i x hi, fun h i x hx => h x (List.mem_of_getElem? hx)⟩
      rw [goL_all (fun _ => kn2 k), e] at l2
      generalize (k.2.1.zipIdx.all fun q => kn1 k q.2 q.1) = b5
      generalize k.2.2.1.all (kn2 k) = b6 at l2 ⊢
      generalize pieceV k.1 = b1
      generalize derV k.2.1 = b2
      generalize (decide (0 ≤ k.2.2.2.1) && decide (k.2.2.2.1 ≤ 100)) = b4
      cases b1 <;> (try rfl) <;> cases b2 <;> (try rfl) <;> cases b4 <;> (try rfl) <;> cases b5 <;> (try rfl) <;> cases b6 <;> simp [endK, l2]
  · have hl := get_lt hx
    simp only [spec_KernelValid_l2, spec_KernelValid_l2K, dec_lt hx, cond_true, nnK_nat, getK_some hx, B7, wrapS (show i < 4611686018427387904 by omega), goTo_if, goTo_l, goTo_r, kn2]
    by_cases q1 : x ≥ (k.2.1.length : Int)
    · simp [q1]
    · by_cases q2 : x ≥ 0
      · have hl2 : x.toNat < k.2.1.length := by omega
        simp only [q1, q2, decide_true, decide_false, Bool.not_true, Bool.not_false, cond_true, cond_false, nnK_pos q2, getK_some (eget_of hl2), Bool.true_and, Bool.false_or]
        cases (k.2.1.getD x.toNat e0).2.2.1 <;> rfl
      · simp [q1, q2]
  · simp only [spec_KernelValid_l2, spec_KernelValid_l2K, dec_nlt, cond_false]
  · have hl := get_lt hx
    simp only [spec_KernelValid_l0, spec_KernelValid_l0K, dec_lt hx, cond_true, nnK_nat, getK_some hx, B7, wrapS (show i < 4611686018427387904 by omega), goTo_if, goTo_l, goTo_r, FindPlace_ok _ _ h2, kn1]
    have hge : decide ((i : Int) ≥ 0) = true := by simp
    rw [hge, Bool.true_and]
    generalize (bif plV k.2.2.1 then ixI k.2.2.1 (i : Int) else -1) = z
    have e : decide (z < 0) = !decide (z ≥ 0) := by by_cases q : z < 0 <;> simp [q] <;> omega
    rw [e]
    generalize decide (z ≥ 0) = b1
    generalize decide (x.1.2.1 ≥ k.2.2.2.1) = b2
    cases b1 <;> cases b2 <;> cases x.2.2.1 <;> rfl
  · simp only [spec_KernelValid_l0, spec_KernelValid_l0K, dec_nlt, cond_false]

/-! ### the four functions over kernels -/

theorem szKernel_ok (k : DKernel) (h1 : k.2.1.length ≤ 9223372036854775807) (h2 : k.2.2.1.length ≤ 9223372036854775807) :
    laws_szKernel k 1048576 = some (if k.2.1.length + k.2.2.1.length ≤ 1048576 then 1048576 - (k.2.1.length : Int) - (k.2.2.1.length : Int) else -1) := by
  unfold laws_szKernel laws_szKernelK laws_szEntryS laws_szEntrySK laws_szIntS laws_szIntSK
  rw [wrap64 (n := 1048576 - (k.2.1.length : Int)) (by omega) (by omega)]
  by_cases e1 : k.2.1.length ≤ 1048576
  · have h0 : ¬ (1048576 - (k.2.1.length : Int) < 0) := by omega
    simp only [h0, decide_false, cond_false, B7]
    rw [wrap64 (n := 1048576 - (k.2.1.length : Int) - (k.2.2.1.length : Int)) (by omega) (by omega)]
    by_cases e2 : k.2.1.length + k.2.2.1.length ≤ 1048576
    · have h3 : ¬ (1048576 - (k.2.1.length : Int) - (k.2.2.1.length : Int) < 0) := by omega
      simp [e2, h3]
    · have h3 : (1048576 - (k.2.1.length : Int) - (k.2.2.1.length : Int) < 0) := by omega
      simp [e2, h3]
  · have h0 : (1048576 - (k.2.1.length : Int) < 0) := by omega
    have e2 : ¬ k.2.1.length + k.2.2.1.length ≤ 1048576 := by omega
    simp [h0, e2]

theorem toKernel_ok (k : DKernel) (h1 : k.2.1.length ≤ 1048577) (h2 : k.2.2.1.length ≤ 1048577) : laws_toKernel k = some (k.1.1, k.1.2.1, k.1.2.2.1, k.2.2.2.1, k.2.1, k.2.2.1) := by
  unfold laws_toKernel laws_toKernelK laws_toPiece laws_toPieceK
  rw [toEntryS_ok _ h1, toIntS_ok _ h2]
  rfl

theorem eqPiece_ok (a b : DPiece) : laws_eqPiece a b = some (decide (a = b)) := by
  obtain ⟨a0, a1, a2, ⟨⟩⟩ := a
  obtain ⟨b0, b1, b2, ⟨⟩⟩ := b
  unfold laws_eqPiece laws_eqPieceK
  by_cases h0 : a0 = b0 <;> by_cases h1 : a1 = b1 <;> by_cases h2 : a2 = b2 <;> simp [h0, h1, h2, bneI]

theorem eqKernel_ok (a : DKernel) (h1 : a.2.1.length ≤ 1048577) (h2 : a.2.2.1.length ≤ 1048577) : laws_eqKernel a a = some true := by
  unfold laws_eqKernel laws_eqKernelK
  rw [eqPiece_ok, eqEntryS_ok _ _ h1, eqIntS_ok _ _ h2]
  simp [bneI]

theorem markKernel_ok (a b c d : Int) (xs : List DEntry) (ys : List Int) (h1 : xs.length ≤ 1048577) (h2 : ys.length ≤ 1048577) :
    laws_markKernel a b c d 1 xs ys = some (1 + 6 * (xs.length : Int) + 1 * (ys.length : Int), marks EEntry 6 xs.length 1, marks EInt 1 ys.length (1 + 6 * (xs.length : Int))) := by
  unfold laws_markKernel laws_markKernelK
  rw [markEntryS_ok xs 1 (by omega) (by omega)]
  simp only [B7]
  rw [markIntS_ok ys _ (by omega) (by omega)]
  rfl

theorem heldKernel_ok (p : DPiece) (d : Int) (n m : Nat) (h1 : n ≤ 1048577) (h2 : m ≤ 1048577) :
    laws_heldKernel (p, marks EEntry 6 n 1, marks EInt 1 m (1 + 6 * (n : Int)), d, ()) 1 = some (1 + 6 * (n : Int) + 1 * (m : Int)) := by
  unfold laws_heldKernel laws_heldKernelK
  rw [heldEntryS_ok n 1 (by omega) (by omega) h1]
  have q1 : ¬ ((1 : Int) + 6 * (n : Int) < 0) := by omega
  simp only [B7, q1, decide_false, cond_false]
  rw [heldIntS_ok m _ (by omega) (by omega) h2]
  have q2 : ¬ ((1 : Int) + 6 * (n : Int) + 1 * (m : Int) < 0) := by omega
  simp only [B7, q2, decide_false, cond_false]

theorem FnExactKernelValid_law (k : DKernel) (h : WfD (.cons tKernel .nil) (k, ())) : laws_FnExactKernelValid k = some true := by
  have hl : k.2.1.length ≤ 9223372036854775807 := by have := h.1.2.1.1; simp only [maxLen] at this; omega
  have hm : k.2.2.1.length ≤ 9223372036854775807 := by have := h.1.2.2.1.1; simp only [maxLen] at this; omega
  have ek : ((k.1.1, k.1.2.1, k.1.2.2.1, ()), k.2.1, k.2.2.1, k.2.2.2.1, ()) = k := rfl
  unfold laws_FnExactKernelValid laws_FnExactKernelValidK
  simp only [ek]
  rw [szKernel_ok k hl hm]
  by_cases hs : k.2.1.length + k.2.2.1.length ≤ 1048576
  · have h0 : ¬ (1048576 - (k.2.1.length : Int) - (k.2.2.1.length : Int) < 0) := by omega
    simp only [hs, h0, if_true, B7, decide_false, cond_false, toKernel_ok k (by omega) (by omega), ek, spec_KernelValid_ok k (by omega) (by omega), impl_KernelValid_ok k (by omega) (by omega), beq_self_eq_true, Bool.not_true, eqKernel_ok k (by omega) (by omega)]
  · simp [hs]

end Go.Ev
