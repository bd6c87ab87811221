/-
  Tables: what the functions of the program compute, in plain Lean.
-/
import Derived.Test.YtbkkjmhmcnfhpaaWalk
import Derived.Test.YtbkkjmhmcnfhpaaEv4
namespace Go.Ev
set_option linter.unusedVariables false
set_option linter.unusedSimpArgs false
set_option maxRecDepth 100000
set_option synthInstance.maxSize 2000
set_option synthInstance.maxHeartbeats 400000
/-- in a range -/
theorem in_ok (n lo hi : Int) : impl_in n lo hi = some (decide (lo ≤ n) && decide (n ≤ hi)) := by
  unfold impl_in impl_inK
  by_cases h : n ≥ lo
  · have h' : lo ≤ n := h
    simp [h, h']
  · have h' : ¬ lo ≤ n := h
    simp [h, h']

theorem l1In_ok (n lo hi : Int) : spec_l1In n lo hi = some (decide (lo ≤ n) && decide (n ≤ hi)) := by
  unfold spec_l1In spec_l1InK
  by_cases h : n ≥ lo
  · have h' : lo ≤ n := h
    simp [h, h']
  · have h' : ¬ lo ≤ n := h
    simp [h, h']


theorem toIntS_ok (xs : List Int) (h : xs.length ≤ 1048577) : laws_toIntS xs = some xs := by
  have hl : loopF laws_toIntS_l0 (xs, 0, List.replicate xs.length 0, ()) = some (xs.map id, ()) := by
    refine loop_map xs id (fun i s => (xs, (i : Int), s, ())) (fun s => (s, ())) _ (by simp) (fun i x s hs hx => ?_) (fun s hs => ?_) rfl
    · have hl := get_lt hx
      simp only [laws_toIntS_l0, laws_toIntS_l0K, dec_lt hx, cond_true, nnK_nat, getK_some hx, some_bind']
      rw [chk_pos (by omega), getK_lt (by omega), wrapS (by omega)]
      rfl
    · simp only [laws_toIntS_l0, laws_toIntS_l0K, dec_nlt, cond_false]
  unfold laws_toIntS laws_toIntSK
  rw [chk_pos (by simp [bigRow]; omega), hl]
  simp

theorem eqIntS_ok (xs ys : List Int) (h : xs.length ≤ 1048577) : laws_eqIntS xs ys = some (decide (xs = ys)) := by
  unfold laws_eqIntS laws_eqIntSK
  by_cases hl : xs.length = ys.length
  · have e : ((xs.length : Int) != (ys.length : Int)) = false := by simp [hl]
    have hq : loopF laws_eqIntS_l0 (xs, ys, 0, ()) = some (if xs = ys then .inl () else .inr (false, ())) := by
      refine loop_eq2 xs ys (fun i => (xs, ys, (i : Int), ())) _ _ hl (fun i x y hx hy => ?_) ?_ rfl
      · have hl := get_lt hx
        simp only [laws_eqIntS_l0, laws_eqIntS_l0K, dec_lt hx, cond_true, nnK_nat, getK_some hx, getK_some hy, some_bind', wrapS (show i < 4611686018427387904 by omega)]
        by_cases e : x = y
        · simp [e]
        · have : (x != y) = true := bne_iff_ne.mpr e
          simp [e, this]
      · simp only [laws_eqIntS_l0, laws_eqIntS_l0K, dec_nlt, cond_false]
    rw [e, cond_false, hq]
    by_cases h : xs = ys <;> simp [h, endK]
  · have e : ((xs.length : Int) != (ys.length : Int)) = true := by simp; omega
    rw [e, cond_true]
    have : ¬ xs = ys := fun e => hl (by rw [e])
    simp [this]

def EInt (k : Int) : Int := k

theorem markIntS_ok (xs : List Int) (k : Int) (hk : 0 ≤ k) (hK : k + 1 * (xs.length : Int) ≤ 1000000000000) : laws_markIntS k xs = some (k + 1 * (xs.length : Int), marks EInt 1 xs.length k) := by
  have : loopF laws_markIntS_l0 (k, 0, xs, ()) = some (k + (1 : Nat) * xs.length, marks EInt 1 xs.length k, ()) := by
    refine loop_mark EInt 1 (fun i k s => (k, (i : Int), s, ())) (fun k s => (k, s, ())) xs k 1000000000000 hk hK (fun i k s hk hkK hs hi => ?_) (fun k s hs => ?_) rfl
    · have hi' : i < s.length := by omega
      have hd : decide ((i : Int) < (s.length : Int)) = true := by simp; omega
      have w1 : IntKind.wrap .i64 (k + 1) = k + 1 := wrap64 (by omega) (by omega)
      have ws : IntKind.wrap .i64 ((i : Int) + 1) = (i : Int) + 1 := wrap64 (by omega) (by omega)
      simp [laws_markIntS_l0, laws_markIntS_l0K, hd, nnK_nat, chk, getK, hi', w1, ws, EInt, Int.add_assoc]
    · have hd : decide ((xs.length : Int) < (s.length : Int)) = false := by simp; omega
      simp only [laws_markIntS_l0, laws_markIntS_l0K, hd, cond_false]
  unfold laws_markIntS laws_markIntSK
  rw [this]
  rfl

theorem heldIntS_ok (n : Nat) (k : Int) (hk : 0 ≤ k) (hK : k + 1 * (n : Int) ≤ 1000000000000) (hn : n ≤ 1048577) : laws_heldIntS (marks EInt 1 n k) k = some (k + 1 * (n : Int)) := by
  have : loopF laws_heldIntS_l0 (marks EInt 1 n k, k, 0, ()) = some (.inl (k + (1 : Nat) * n, ())) := by
    refine loop_held (nxt := laws_heldIntS_l0) EInt 1 n k (fun i k' => (marks EInt 1 n k, k', (i : Int), ())) (fun k => Sum.inl (k, ())) 1000000000000 hk hK (fun i k' hk hkK hx => ?_) (fun k => ?_) rfl
    · have hl := get_lt hx
      rw [marks_length] at hl
      have w1 : IntKind.wrap .i64 (k' + 1) = k' + 1 := wrap64 (by omega) (by omega)
      have ws : IntKind.wrap .i64 ((i : Int) + 1) = (i : Int) + 1 := wrap64 (by omega) (by omega)
      simp [laws_heldIntS_l0, laws_heldIntS_l0K, get_lt hx, nnK_nat, getK_some hx, w1, ws, EInt, bneI, Int.add_assoc]
    · simp [laws_heldIntS_l0, laws_heldIntS_l0K, marks_length]
  unfold laws_heldIntS laws_heldIntSK
  rw [this]
  rfl


theorem toCap_ok (a : DCap) : laws_toCap a = some a := rfl

theorem eqCap_ok (a b : DCap) : laws_eqCap a b = some (decide (a = b)) := by
  obtain ⟨a0, a1, a2, a3, ⟨⟩⟩ := a
  obtain ⟨b0, b1, b2, b3, ⟨⟩⟩ := b
  unfold laws_eqCap laws_eqCapK
  by_cases h0 : a0 = b0 <;> by_cases h1 : a1 = b1 <;> by_cases h2 : a2 = b2 <;> by_cases h3 : a3 = b3 <;> simp [h0, h1, h2, h3, bneI]

theorem toCapS_ok (xs : List DCap) (h : xs.length ≤ 1048577) : laws_toCapS xs = some xs := by
  have hl : loopF laws_toCapS_l0 (xs, 0, List.replicate xs.length (0, 0, 0, 0, ()), ()) = some (xs.map id, ()) := by
    refine loop_map xs id (fun i s => (xs, (i : Int), s, ())) (fun s => (s, ())) _ (by simp) (fun i x s hs hx => ?_) (fun s hs => ?_) rfl
    · have hl := get_lt hx
      simp only [laws_toCapS_l0, laws_toCapS_l0K, dec_lt hx, cond_true, nnK_nat, getK_some hx, toCap_ok, some_bind']
      rw [chk_pos (by omega), getK_lt (by omega), wrapS (by omega)]
      rfl
    · simp only [laws_toCapS_l0, laws_toCapS_l0K, dec_nlt, cond_false]
  unfold laws_toCapS laws_toCapSK
  rw [chk_pos (by simp [bigRow]; omega), hl]
  simp

theorem eqCapS_ok (xs ys : List DCap) (h : xs.length ≤ 1048577) : laws_eqCapS xs ys = some (decide (xs = ys)) := by
  unfold laws_eqCapS laws_eqCapSK
  by_cases hl : xs.length = ys.length
  · have e : ((xs.length : Int) != (ys.length : Int)) = false := by simp [hl]
    have hq : loopF laws_eqCapS_l0 (xs, ys, 0, ()) = some (if xs = ys then .inl () else .inr (false, ())) := by
      refine loop_eq2 xs ys (fun i => (xs, ys, (i : Int), ())) _ _ hl (fun i x y hx hy => ?_) ?_ rfl
      · have hl := get_lt hx
        simp only [laws_eqCapS_l0, laws_eqCapS_l0K, dec_lt hx, cond_true, nnK_nat, getK_some hx, getK_some hy, eqCap_ok, some_bind', wrapS (show i < 4611686018427387904 by omega)]
        by_cases e : x = y
        · simp [e]
        · have : decide (x = y) = false := decide_eq_false e
          simp [e, this]
      · simp only [laws_eqCapS_l0, laws_eqCapS_l0K, dec_nlt, cond_false]
    rw [e, cond_false, hq]
    by_cases h : xs = ys <;> simp [h, endK]
  · have e : ((xs.length : Int) != (ys.length : Int)) = true := by simp; omega
    rw [e, cond_true]
    have : ¬ xs = ys := fun e => hl (by rw [e])
    simp [this]

def ECap (k : Int) : DCap := (k, k + 1, k + 1 + 1, k + 1 + 1 + 1, ())

theorem markCapS_ok (xs : List DCap) (k : Int) (hk : 0 ≤ k) (hK : k + 4 * (xs.length : Int) ≤ 1000000000000) : laws_markCapS k xs = some (k + 4 * (xs.length : Int), marks ECap 4 xs.length k) := by
  have : loopF laws_markCapS_l0 (k, 0, xs, ()) = some (k + (4 : Nat) * xs.length, marks ECap 4 xs.length k, ()) := by
    refine loop_mark ECap 4 (fun i k s => (k, (i : Int), s, ())) (fun k s => (k, s, ())) xs k 1000000000000 hk hK (fun i k s hk hkK hs hi => ?_) (fun k s hs => ?_) rfl
    · have hi' : i < s.length := by omega
      have hd : decide ((i : Int) < (s.length : Int)) = true := by simp; omega
      have w1 : IntKind.wrap .i64 (k + 1) = k + 1 := wrap64 (by omega) (by omega)
      have w2 : IntKind.wrap .i64 (k + 2) = k + 2 := wrap64 (by omega) (by omega)
      have w3 : IntKind.wrap .i64 (k + 3) = k + 3 := wrap64 (by omega) (by omega)
      have w4 : IntKind.wrap .i64 (k + 4) = k + 4 := wrap64 (by omega) (by omega)
      have ws : IntKind.wrap .i64 ((i : Int) + 1) = (i : Int) + 1 := wrap64 (by omega) (by omega)
      simp [laws_markCapS_l0, laws_markCapS_l0K, hd, nnK_nat, chk, getK, hi', w1, w2, w3, w4, ws, ECap, Int.add_assoc]
    · have hd : decide ((xs.length : Int) < (s.length : Int)) = false := by simp; omega
      simp only [laws_markCapS_l0, laws_markCapS_l0K, hd, cond_false]
  unfold laws_markCapS laws_markCapSK
  rw [this]
  rfl

theorem heldCapS_ok (n : Nat) (k : Int) (hk : 0 ≤ k) (hK : k + 4 * (n : Int) ≤ 1000000000000) (hn : n ≤ 1048577) : laws_heldCapS (marks ECap 4 n k) k = some (k + 4 * (n : Int)) := by
  have : loopF laws_heldCapS_l0 (marks ECap 4 n k, k, 0, ()) = some (.inl (k + (4 : Nat) * n, ())) := by
    refine loop_held (nxt := laws_heldCapS_l0) ECap 4 n k (fun i k' => (marks ECap 4 n k, k', (i : Int), ())) (fun k => Sum.inl (k, ())) 1000000000000 hk hK (fun i k' hk hkK hx => ?_) (fun k => ?_) rfl
    · have hl := get_lt hx
      rw [marks_length] at hl
      have w1 : IntKind.wrap .i64 (k' + 1) = k' + 1 := wrap64 (by omega) (by omega)
      have w2 : IntKind.wrap .i64 (k' + 2) = k' + 2 := wrap64 (by omega) (by omega)
      have w3 : IntKind.wrap .i64 (k' + 3) = k' + 3 := wrap64 (by omega) (by omega)
      have w4 : IntKind.wrap .i64 (k' + 4) = k' + 4 := wrap64 (by omega) (by omega)
      have ws : IntKind.wrap .i64 ((i : Int) + 1) = (i : Int) + 1 := wrap64 (by omega) (by omega)
      simp [laws_heldCapS_l0, laws_heldCapS_l0K, get_lt hx, nnK_nat, getK_some hx, w1, w2, w3, w4, ws, ECap, bneI, Int.add_assoc]
    · simp [laws_heldCapS_l0, laws_heldCapS_l0K, marks_length]
  unfold laws_heldCapS laws_heldCapSK
  rw [this]
  rfl



/-- a capability is in order -/
def rgt (a lo hi : Int) : Bool := decide (lo ≤ a) && decide (a ≤ hi)
def capV (c : DCap) : Bool :=
  bif decide (c.1 = 0) then decide (c.2.1 = 0) && (decide (c.2.2.1 = 0) && decide (c.2.2.2.1 = 0))
  else rgt c.1 1 7 && (rgt c.2.1 0 99 && (rgt c.2.2.1 0 15 && (decide (c.2.2.2.1 = 0) || ((decide (c.1 = 4) || decide (c.1 = 5)) && rgt c.2.2.2.1 0 999))))

theorem impl_CapValid_ok (c : DCap) : impl_CapValid c = some (capV c) := by
  obtain ⟨c0, c1, c2, c3, ⟨⟩⟩ := c
  unfold impl_CapValid impl_CapValidK capV
  simp only [impl_isObject, impl_isObjectK, impl_RightsValid, impl_RightsValidK, impl_badged, impl_badgedK, in_ok, some_bind', beqI, rgt]
  generalize (decide (1 ≤ c0) && decide (c0 ≤ 7)) = b1
  generalize (decide (0 ≤ c1) && decide (c1 ≤ 99)) = b2
  generalize (decide (0 ≤ c2) && decide (c2 ≤ 15)) = b3
  generalize (decide (0 ≤ c3) && decide (c3 ≤ 999)) = b4
  generalize decide (c0 = 0) = b5
  generalize decide (c3 = 0) = b6
  generalize decide (c0 = 4) = b7
  generalize decide (c0 = 5) = b8
  generalize decide (c1 = 0) = b9
  generalize decide (c2 = 0) = b10
  cases b1 <;> cases b2 <;> cases b3 <;> cases b4 <;> cases b5 <;> cases b6 <;> cases b7 <;> cases b8 <;> simp

theorem spec_CapValid_ok (c : DCap) : spec_CapValid c = some (capV c) := by
  obtain ⟨c0, c1, c2, c3, ⟨⟩⟩ := c
  unfold spec_CapValid spec_CapValidK capV
  simp only [spec_RightsValid, spec_RightsValidK, spec_l2Badged, spec_l2BadgedK, l1In_ok, some_bind', beqI, rgt]
  generalize (decide (1 ≤ c0) && decide (c0 ≤ 7)) = b1
  generalize (decide (0 ≤ c1) && decide (c1 ≤ 99)) = b2
  generalize (decide (0 ≤ c2) && decide (c2 ≤ 15)) = b3
  generalize (decide (0 ≤ c3) && decide (c3 ≤ 999)) = b4
  generalize decide (c0 = 0) = b5
  generalize decide (c3 = 0) = b6
  generalize decide (c0 = 4) = b7
  generalize decide (c0 = 5) = b8
  generalize decide (c1 = 0) = b9
  generalize decide (c2 = 0) = b10
  cases b1 <;> cases b2 <;> cases b3 <;> cases b4 <;> cases b5 <;> cases b6 <;> cases b7 <;> cases b8 <;> simp

theorem anyInvalid_ok (xs : List DCap) (h : xs.length ≤ 1048577) : impl_anyInvalid xs = some (!xs.all capV) := by
  unfold impl_anyInvalid impl_anyInvalidK slices_ContainsFunc_Cap slices_ContainsFunc_CapK slices_IndexFunc_Cap slices_IndexFunc_CapK
  have : ∀ (st : List DCap × Int × Int × Unit), (xs, (xs.length : Int), 0, ()) = st → ∃ r, loopF slices_IndexFunc_Cap_l0 st = some r ∧ (match r with | .inl _ => xs.all capV = true | .inr z => 0 ≤ z.1 ∧ xs.all capV = false) := by
    intro st hst
    refine ⟨_, loop_list0 (nxt := slices_IndexFunc_Cap_l0) xs (fun i (_ : Unit) => (xs, (xs.length : Int), (i : Int), ())) (fun i x _ => bif capV x then .inl () else .inr (.inr ((i : Int), ()))) (fun _ => .inl ()) () (fun i x s hx => ?_) (fun s => ?_) hst, ?_⟩
    · have hl := get_lt hx
      simp only [slices_IndexFunc_Cap_l0, slices_IndexFunc_Cap_l0K, dec_lt hx, cond_true, nnK_nat, getK_some hx, impl_anyInvalid_c1, impl_anyInvalid_c1K, impl_CapValid_ok, some_bind', wrapS (show i < 4611686018427387904 by omega), goTo_if, goTo_l, goTo_r]
      cases capV x <;> rfl
    · simp only [slices_IndexFunc_Cap_l0, slices_IndexFunc_Cap_l0K, dec_nlt, cond_false]
    · have : ∀ (r : List DCap) (i : Nat), (match goL (fun i x (_ : Unit) => bif capV x then (.inl () : Unit ⊕ (Unit ⊕ (Int × Unit))) else .inr (.inr ((i : Int), ()))) (fun _ => .inl ()) r i () with | .inl _ => r.all capV = true | .inr z => 0 ≤ z.1 ∧ r.all capV = false) := by
        intro r
        induction r with
        | nil => intro i; simp [goL]
        | cons x r ih =>
          intro i
          simp only [goL, List.all_cons]
          cases hx : capV x with
          | true => simpa using ih (i + 1)
          | false => simp
      exact this xs 0
  obtain ⟨r, hr, hq⟩ := this _ rfl
  rw [hr]
  cases r with
  | inl u => simp [endK, hq]
  | inr z => simp [endK, hq.1, hq.2]

def packC (c : DCap) : Int := bif capV c then (IntKind.wrap .i64 (c.1 + (IntKind.wrap .i64 ((8 : Int) * (IntKind.wrap .i64 (c.2.1 + (IntKind.wrap .i64 ((100 : Int) * (IntKind.wrap .i64 (c.2.2.1 + (IntKind.wrap .i64 ((16 : Int) * c.2.2.2.1))))))))))))
  else -1
theorem impl_PackCap_ok (c : DCap) : impl_PackCap c = some (packC c) := by
  unfold impl_PackCap impl_PackCapK packC
  rw [impl_CapValid_ok]
  cases h : capV c <;> simp [h]
  
theorem spec_PackCap_ok (c : DCap) : spec_PackCap c = some (packC c) := by
  unfold spec_PackCap spec_PackCapK packC
  rw [spec_CapValid_ok]
  cases h : capV c <;> simp [h]


/-- a table is in order -/
def tabV (t : DTable) : Bool :=
  rgt t.1 1 4 && (rgt t.2.2.1 0 4 && (rgt t.2.1 0 (IntKind.wrap .i64 ((IntKind.wrap .i64 ((1 : Int) * 2 ^ (min (t.2.2.1).toNat 64))) - (1 : Int))) &&
    (decide ((t.2.2.2.1.length : Int) = (IntKind.wrap .i64 ((1 : Int) * 2 ^ (min (t.1).toNat 64)))) && t.2.2.2.1.all capV)))

theorem impl_TableValid_ok (t : DTable) (h : t.2.2.2.1.length ≤ 1048577) : impl_TableValid t = some (tabV t) := by
  unfold impl_TableValid impl_TableValidK tabV
  rw [anyInvalid_ok _ h]
  simp only [in_ok, some_bind', beqI, rgt]
  by_cases h1 : (1 ≤ t.1 ∧ t.1 ≤ 4)
  · by_cases h2 : (0 ≤ t.2.2.1 ∧ t.2.2.1 ≤ 4)
    · rw [chk_pos h2.1, chk_pos (show (0 : Int) ≤ t.1 by omega)]
      simp only [h1.1, h1.2, h2.1, h2.2, decide_true, Bool.and_self, cond_true, Bool.true_and, Bool.not_not]
      generalize (decide (0 ≤ t.2.1) && _) = b1
      generalize (decide ((t.2.2.2.1.length : Int) = _)) = b2
      cases b1 <;> cases b2 <;> simp
    · have : (decide (0 ≤ t.2.2.1) && decide (t.2.2.1 ≤ 4)) = false := by simp; omega
      simp [this]
  · have : (decide (1 ≤ t.1) && decide (t.1 ≤ 4)) = false := by simp; omega
    simp [this]

theorem spec_TableValid_loop (t : DTable) (h : t.2.2.2.1.length ≤ 1048577) : loopF spec_TableValid_l0 (t, 0, ()) = some (bif t.2.2.2.1.all capV then .inl () else .inr (false, ())) := by
  have := loop_list0 (nxt := spec_TableValid_l0) t.2.2.2.1 (fun i (_ : Unit) => (t, (i : Int), ())) (fun i x _ => bif capV x then .inl () else .inr (.inr (false, ()))) (fun _ => .inl ()) () (fun i x s hx => ?_) (fun s => ?_) (st := (t, 0, ())) rfl
  · rw [this, goL_all (fun _ => capV)]
    congr 1
    have : (t.2.2.2.1.zipIdx.all fun q => capV q.1) = t.2.2.2.1.all capV := by
      rw [Bool.eq_iff_iff, all_zip0 (p := fun _ => capV), List.all_eq_true]
      exact ⟨fun h x hx => by obtain ⟨i, hi⟩ := List.getElem?_of_mem hx; exact h i x hi, fun h i x hx => h x (List.mem_of_getElem? hx)⟩
    rw [this]
  · have hl := get_lt hx
    simp only [spec_TableValid_l0, spec_TableValid_l0K, dec_lt hx, cond_true, nnK_nat, getK_some hx, spec_CapValid_ok, some_bind', wrapS (show i < 4611686018427387904 by omega), goTo_if, goTo_l, goTo_r]
    cases capV x <;> rfl
  · simp only [spec_TableValid_l0, spec_TableValid_l0K, dec_nlt, cond_false]

theorem spec_TableValid_ok (t : DTable) (h : t.2.2.2.1.length ≤ 1048577) : spec_TableValid t = some (tabV t) := by
  unfold spec_TableValid spec_TableValidK tabV
  have e : (t.1, t.2.1, t.2.2.1, t.2.2.2.1, ()) = t := rfl
  rw [e, spec_TableValid_loop t h]
  simp only [l1In_ok, some_bind', bneI, rgt]
  by_cases h1 : (1 ≤ t.1 ∧ t.1 ≤ 4)
  · by_cases h2 : (0 ≤ t.2.2.1 ∧ t.2.2.1 ≤ 4)
    · rw [chk_pos h2.1, chk_pos (show (0 : Int) ≤ t.1 by omega)]
      simp only [h1.1, h1.2, h2.1, h2.2, decide_true, Bool.and_self, cond_true, Bool.true_and, Bool.not_not]
      generalize (decide (0 ≤ t.2.1) && _) = b1
      generalize (decide ((t.2.2.2.1.length : Int) = _)) = b2
      generalize (t.2.2.2.1.all capV) = b3
      cases b1 <;> cases b2 <;> cases b3 <;> simp [endK]
    · have : (decide (0 ≤ t.2.2.1) && decide (t.2.2.1 ≤ 4)) = false := by simp; omega
      simp [this]
  · have : (decide (1 ≤ t.1) && decide (t.1 ≤ 4)) = false := by simp; omega
    simp [this]


def packT (t : DTable) : List Int := bif tabV t then (IntKind.wrap .i64 (t.1 + (IntKind.wrap .i64 ((8 : Int) * (IntKind.wrap .i64 (t.2.2.1 + (IntKind.wrap .i64 ((8 : Int) * t.2.1)))))))) :: t.2.2.2.1.map packC else []

theorem packT_length (t : DTable) : (packT t).length ≤ t.2.2.2.1.length + 1 := by
  unfold packT
  cases tabV t <;> simp

theorem fold_app {α β : Type} (f : α → β) : ∀ (r : List α) (s : List β), r.foldl (fun s x => s ++ [f x]) s = s ++ r.map f
  | [], s => by simp
  | x :: r, s => by rw [List.foldl_cons, fold_app f r]; simp

theorem Clip_int_ok (b : List Int) : slices_Clip_int b = some b := by
  unfold slices_Clip_int slices_Clip_intK
  rw [chk_pos (by omega), chk_pos (by omega)]

theorem impl_PackTable_ok (t : DTable) (h : t.2.2.2.1.length ≤ 1048576) : impl_PackTable t = some (packT t) := by
  unfold impl_PackTable impl_PackTableK packT
  have e : (t.1, t.2.1, t.2.2.1, t.2.2.2.1, ()) = t := rfl
  rw [e, impl_TableValid_ok t (by omega)]
  cases hv : tabV t with
  | false => simp
  | true =>
    simp only [some_bind', Bool.not_true, cond_false, cond_true]
    have := loop_list1 (nxt := impl_PackTable_l0) t.2.2.2.1 (fun i s => (t.2.2.2.1, (t.2.2.2.1.length : Int), (i : Int), s, ())) (fun _ x s => .inl (s ++ [packC x])) (fun s => (s, ())) (fun i s => s.length = i + 1)
      [(IntKind.wrap .i64 (t.1 + (IntKind.wrap .i64 ((8 : Int) * (IntKind.wrap .i64 (t.2.2.1 + (IntKind.wrap .i64 ((8 : Int) * t.2.1))))))))] (fun i x s hs hx => ?_) (fun i x s s' hs hx e => ?_) (fun s _ => ?_) (by rfl) (st := (t.2.2.2.1, (t.2.2.2.1.length : Int), 0, [(IntKind.wrap .i64 (t.1 + (IntKind.wrap .i64 ((8 : Int) * (IntKind.wrap .i64 (t.2.2.1 + (IntKind.wrap .i64 ((8 : Int) * t.2.1))))))))], ())) rfl
    · rw [this, goL_fold (fun s x => s ++ [packC x]), fold_app]
      simp [Clip_int_ok]
    · have hl := get_lt hx
      simp only [impl_PackTable_l0, impl_PackTable_l0K, dec_lt hx, cond_true, nnK_nat, getK_some hx, impl_PackCap_ok, some_bind', wrapS (show i < 4611686018427387904 by omega), goTo_l]
      rw [chk_pos (by simp only [bigRow]; omega)]
    · cases e; simp [hs]
    · simp only [impl_PackTable_l0, impl_PackTable_l0K, dec_nlt, cond_false]

theorem spec_PackTable_ok (t : DTable) (h : t.2.2.2.1.length ≤ 1048576) : spec_PackTable t = some (packT t) := by
  unfold spec_PackTable spec_PackTableK packT
  have e : (t.1, t.2.1, t.2.2.1, t.2.2.2.1, ()) = t := rfl
  rw [e, spec_TableValid_ok t (by omega)]
  cases hv : tabV t with
  | false => simp
  | true =>
    simp only [some_bind', Bool.not_true, cond_false, cond_true]
    have := loop_list1 (nxt := spec_PackTable_l0) t.2.2.2.1 (fun i s => (t, (i : Int), s, ())) (fun _ x s => .inl (s ++ [packC x])) (fun s => (s, ())) (fun i s => s.length = i + 1)
      [(IntKind.wrap .i64 (t.1 + (IntKind.wrap .i64 ((8 : Int) * (IntKind.wrap .i64 (t.2.2.1 + (IntKind.wrap .i64 ((8 : Int) * t.2.1))))))))] (fun i x s hs hx => ?_) (fun i x s s' hs hx e => ?_) (fun s _ => ?_) (by rfl) (st := (t, 0, [(IntKind.wrap .i64 (t.1 + (IntKind.wrap .i64 ((8 : Int) * (IntKind.wrap .i64 (t.2.2.1 + (IntKind.wrap .i64 ((8 : Int) * t.2.1))))))))], ())) rfl
    · rw [this, goL_fold (fun s x => s ++ [packC x]), fold_app]
      simp
    · have hl := get_lt hx
      simp only [spec_PackTable_l0, spec_PackTable_l0K, dec_lt hx, cond_true, nnK_nat, getK_some hx, spec_PackCap_ok, some_bind', wrapS (show i < 4611686018427387904 by omega), goTo_l]
      rw [chk_pos (by simp only [bigRow]; omega)]
    · cases e; simp [hs]
    · simp only [spec_PackTable_l0, spec_PackTable_l0K, dec_nlt, cond_false]

theorem szTable_ok (t : DTable) (h : t.2.2.2.1.length ≤ 9223372036854775807) : laws_szTable t 1048576 = some (if t.2.2.2.1.length ≤ 1048576 then 1048576 - (t.2.2.2.1.length : Int) else -1) := by
  unfold laws_szTable laws_szTableK laws_szCapS laws_szCapSK
  rw [wrap64 (n := 1048576 - (t.2.2.2.1.length : Int)) (by omega) (by omega)]
  by_cases e : t.2.2.2.1.length ≤ 1048576
  · have : ¬ (1048576 - (t.2.2.2.1.length : Int) < 0) := by omega
    simp [e, this]
  · have : (1048576 - (t.2.2.2.1.length : Int) < 0) := by omega
    simp [e, this]

theorem toTable_ok (t : DTable) (h : t.2.2.2.1.length ≤ 1048577) : laws_toTable t = some (t.1, t.2.1, t.2.2.1, t.2.2.2.1) := by
  unfold laws_toTable laws_toTableK
  rw [toCapS_ok _ h]
  rfl

theorem eqTable_ok (a b : DTable) (h : a.2.2.2.1.length ≤ 1048577) : laws_eqTable a b = some (decide (a = b)) := by
  obtain ⟨a0, a1, a2, a3, ⟨⟩⟩ := a
  obtain ⟨b0, b1, b2, b3, ⟨⟩⟩ := b
  unfold laws_eqTable laws_eqTableK
  rw [eqCapS_ok _ _ h]
  by_cases h0 : a0 = b0 <;> by_cases h1 : a1 = b1 <;> by_cases h2 : a2 = b2 <;> by_cases h3 : a3 = b3 <;> simp [h0, h1, h2, h3, bneI]

theorem markTable_ok (a b c : Int) (xs : List DCap) (h : xs.length ≤ 1048577) : laws_markTable a b c 1 xs = some (1 + 4 * (xs.length : Int), marks ECap 4 xs.length 1) := by
  unfold laws_markTable laws_markTableK
  rw [markCapS_ok xs 1 (by omega) (by omega)]
  rfl

theorem FnExactPackTable_law (t : DTable) (h : WfD (.cons tTable .nil) (t, ())) : laws_FnExactPackTable t = some true := by
  have hl : t.2.2.2.1.length ≤ 9223372036854775807 := by have := h.1.2.2.2.1.1; simp only [maxLen] at this; omega
  have e : (t.1, t.2.1, t.2.2.1, t.2.2.2.1, ()) = t := rfl
  unfold laws_FnExactPackTable laws_FnExactPackTableK
  rw [e, szTable_ok t hl]
  by_cases hs : t.2.2.2.1.length ≤ 1048576
  · have h0 : ¬ (1048576 - (t.2.2.2.1.length : Int) < 0) := by omega
    have hp := packT_length t
    have k1 : ¬ ((1 : Int) + 4 * (t.2.2.2.1.length : Int) < 0) := by omega
    have k2 : ¬ ((1 : Int) + 1 * ((packT t).length : Int) < 0) := by omega
    have k3 : ¬ ((1 : Int) + ((packT t).length : Int) < 0) := by omega
    simp [hs, h0, toTable_ok t (by omega), impl_PackTable_ok t hs, spec_PackTable_ok t hs, eqIntS_ok (packT t) (packT t) (by omega), eqTable_ok t t (by omega), markTable_ok t.1 t.2.1 t.2.2.1 t.2.2.2.1 (by omega),
      markIntS_ok (packT t) 1 (by omega) (by omega), heldIntS_ok (packT t).length 1 (by omega) (by omega) (by omega), k1, k2, k3]
  · simp [hs]


/-! ### unpacking -/

def unp (n : Int) : DCap := ((Int.tmod n (8 : Int)), (Int.tmod (IntKind.wrap .i64 (Int.tdiv n (8 : Int))) (100 : Int)), (Int.tmod (IntKind.wrap .i64 (Int.tdiv n (800 : Int))) (16 : Int)), (IntKind.wrap .i64 (Int.tdiv n (12800 : Int))), ())
def unpV (n : Int) : Bool := decide (0 ≤ n) && capV (unp n)
def unpR (n : Int) : DCap × Bool := bif unpV n then (unp n, true) else ((0, 0, 0, 0, ()), false)

theorem unp_eq {n : Int} (h0 : 0 ≤ n) (h1 : n ≤ 9223372036854775807) : unp n = (n % 8, n / 8 % 100, n / 800 % 16, n / 12800, ()) := by
  unfold unp
  rw [Int.tmod_eq_emod_of_nonneg h0, Int.tdiv_eq_ediv_of_nonneg h0, Int.tdiv_eq_ediv_of_nonneg h0, Int.tdiv_eq_ediv_of_nonneg h0, wrap64 (n := n / 8) (by omega) (by omega), wrap64 (n := n / 800) (by omega) (by omega), wrap64 (n := n / 12800) (by omega) (by omega),
    Int.tmod_eq_emod_of_nonneg (by omega), Int.tmod_eq_emod_of_nonneg (by omega)]

theorem pack_unp {n : Int} (h0 : 0 ≤ n) (h1 : n ≤ 9223372036854775807) : packC (unp n) = bif capV (unp n) then n else -1 := by
  unfold packC
  rw [unp_eq h0 h1]
  have e1 : n / 800 % 16 + 16 * (n / 12800) = n / 800 := by omega
  have e2 : n / 8 % 100 + 100 * (n / 800) = n / 8 := by omega
  have e3 : n % 8 + 8 * (n / 8) = n := by omega
  simp only
  rw [wrap64 (n := 16 * (n / 12800)) (by omega) (by omega), e1, wrap64 (n := n / 800) (by omega) (by omega), wrap64 (n := 100 * (n / 800)) (by omega) (by omega), e2, wrap64 (n := n / 8) (by omega) (by omega), wrap64 (n := 8 * (n / 8)) (by omega) (by omega), e3, wrap64 (by omega) (by omega)]

theorem spec_UnpackCap_ok (n : Int) : spec_UnpackCap n = some (unpR n) := by
  unfold spec_UnpackCap spec_UnpackCapK unpR unpV
  rw [spec_CapValid_ok]
  by_cases h : n < 0
  · have : ¬ 0 ≤ n := by omega
    simp [h, this]
  · have h' : 0 ≤ n := by omega
    simp only [h, h', decide_true, decide_false, cond_false, Bool.true_and, some_bind']
    show (bif (!capV (unp n)) then _ else some (unp n, true)) = _
    cases capV (unp n) <;> rfl

theorem impl_UnpackCap_ok {n : Int} (h1 : n ≤ 9223372036854775807) : impl_UnpackCap n = some (unpR n) := by
  unfold impl_UnpackCap impl_UnpackCapK unpR unpV
  rw [impl_PackCap_ok]
  by_cases h : n < 0
  · have : ¬ 0 ≤ n := by omega
    simp [h, this]
  · have h' : 0 ≤ n := by omega
    simp only [h, h', decide_true, decide_false, cond_false, Bool.true_and, some_bind']
    show (bif (packC (unp n) != n) then _ else some (unp n, true)) = _
    rw [pack_unp h' h1]
    cases capV (unp n) with
    | false =>
      have : ((-1 : Int) != n) = true := by simp; omega
      simp [this]
    | true => simp

def unpOf (v : Int) (r : List Int) : DTable := ((Int.tmod v (8 : Int)), (IntKind.wrap .i64 (Int.tdiv v (64 : Int))), (Int.tmod (IntKind.wrap .i64 (Int.tdiv v (8 : Int))) (8 : Int)), r.map unp, ())
def unpT (xs : List Int) : Int × Int × Int × Bool × List DCap :=
  match xs with
  | [] => (0, 0, 0, false, [])
  | v :: r => bif decide (v < 0) then (0, 0, 0, false, []) else bif (r.all unpV && tabV (unpOf v r)) then ((unpOf v r).1, (unpOf v r).2.1, (unpOf v r).2.2.1, true, r.map unp) else (0, 0, 0, false, [])

theorem all_z {r : List Int} {i : Nat} (p : Int → Bool) : ((r.zipIdx i).all fun q => p q.1) = r.all p := by
  induction r generalizing i with
  | nil => rfl
  | cons x r ih => simp only [List.zipIdx_cons, List.all_cons, ih]

theorem unpR_f {x : Int} (h : unpV x = false) : unpR x = ((0, 0, 0, 0, ()), false) := by simp [unpR, h]
theorem unpR_t {x : Int} (h : unpV x = true) : unpR x = (unp x, true) := by simp [unpR, h]

theorem spec_Unpack_loop (v : Int) (r : List Int) (h : r.length ≤ 1048577) (a b c : Int) : loopF spec_UnpackTable_l0 (v :: r, 1, 0, 0, 0, a, b, c, [], [], ()) =
    some (bif r.all unpV then .inl (0, 0, 0, a, b, c, [], r.map unp, ()) else .inr (false, 0, 0, 0, [], ())) := by
  have := loop_list (nxt := spec_UnpackTable_l0) (v :: r) (fun i s => (v :: r, (i : Int), 0, 0, 0, a, b, c, [], s, ())) (fun _ x s => bif unpV x then .inl (s ++ [unp x]) else .inr (.inr (false, 0, 0, 0, [], ()))) (fun s => .inl (0, 0, 0, a, b, c, [], s, ())) (fun i s => s.length ≤ i)
    (fun i x s hs hx => ?_) (fun i x s s' hs hx e => ?_) (fun s _ => ?_) r 1 [] rfl (by simp) (by simp)
  · rw [show ((v :: r, 1, 0, 0, 0, a, b, c, [], [], ()) : List Int × Int × Int × Int × Int × Int × Int × Int × List DCap × List DCap × Unit) = (fun i s => (v :: r, ((i : Nat) : Int), 0, 0, 0, a, b, c, [], s, ())) 1 [] from rfl, this, goL_allst (fun _ => unpV) (fun s x => s ++ [unp x]), all_z, fold_app]
    simp
  · have hl := get_lt hx
    simp only [List.length_cons] at hl
    simp only [spec_UnpackTable_l0, spec_UnpackTable_l0K, dec_lt hx, cond_true, nnK_nat, getK_some hx, spec_UnpackCap_ok, some_bind', wrapS (show i < 4611686018427387904 by omega), goTo_if, goTo_l, goTo_r]
    cases hu : unpV x with
    | false => simp [unpR_f hu]
    | true =>
      simp only [unpR_t hu, Bool.not_true, cond_false, cond_true]
      rw [chk_pos (by simp only [bigRow]; omega)]
  · cases hu : unpV x with
    | false => rw [hu] at e; cases e
    | true => rw [hu] at e; cases e; simp; omega
  · simp only [spec_UnpackTable_l0, spec_UnpackTable_l0K, dec_nlt, cond_false]

theorem impl_Unpack_loop (r : List Int) (h : r.length ≤ 1048577) (hr : ∀ x ∈ r, x ≤ 9223372036854775807) (a b c : Int) : loopF impl_UnpackTable_l0 (r, (r.length : Int), 0, 0, 0, 0, a, b, c, [], [], ()) =
    some (bif r.all unpV then .inl (0, 0, 0, a, b, c, [], r.map unp, ()) else .inr (false, 0, 0, 0, [], ())) := by
  have := loop_list1 (nxt := impl_UnpackTable_l0) r (fun i s => (r, (r.length : Int), (i : Int), 0, 0, 0, a, b, c, [], s, ())) (fun _ x s => bif unpV x then .inl (s ++ [unp x]) else .inr (.inr (false, 0, 0, 0, [], ()))) (fun s => .inl (0, 0, 0, a, b, c, [], s, ())) (fun i s => s.length ≤ i) []
    (fun i x s hs hx => ?_) (fun i x s s' hs hx e => ?_) (fun s _ => ?_) (by simp) (st := (r, (r.length : Int), 0, 0, 0, 0, a, b, c, [], [], ())) rfl
  · rw [this, goL_allst (fun _ => unpV) (fun s x => s ++ [unp x]), all_z, fold_app]
    simp
  · have hl := get_lt hx
    simp only [impl_UnpackTable_l0, impl_UnpackTable_l0K, dec_lt hx, cond_true, nnK_nat, getK_some hx, impl_UnpackCap_ok (hr x (List.mem_of_getElem? hx)), some_bind', wrapS (show i < 4611686018427387904 by omega), goTo_if, goTo_l, goTo_r]
    cases hu : unpV x with
    | false => simp [unpR_f hu]
    | true =>
      simp only [unpR_t hu, Bool.not_true, cond_false, cond_true]
      rw [chk_pos (by simp only [bigRow]; omega)]
  · cases hu : unpV x with
    | false => rw [hu] at e; cases e
    | true => rw [hu] at e; cases e; simp; omega
  · simp only [impl_UnpackTable_l0, impl_UnpackTable_l0K, dec_nlt, cond_false]

theorem spec_UnpackTable_ok (xs : List Int) (h : xs.length ≤ 1048576) : spec_UnpackTable xs = some (unpT xs) := by
  unfold spec_UnpackTable spec_UnpackTableK
  cases xs with
  | nil => rfl
  | cons v r =>
    simp only [List.length_cons] at h
    have e0 : (!(((v :: r).length : Int) == 0)) = true := by simp; omega
    have eg : (v :: r)[0]? = some v := rfl
    simp only [e0, cond_true, getK_some eg]
    by_cases hv : v < 0
    · simp [hv, unpT]
    · rw [spec_Unpack_loop v r (by omega)]
      simp only [hv, decide_false, cond_false, unpT]
      cases ha : r.all unpV with
      | false => simp [endK]
      | true =>
        simp only [cond_true, some_bind', endK, Bool.true_and]
        have e : (Int.tmod v 8, IntKind.wrap .i64 (Int.tdiv v 64), Int.tmod (IntKind.wrap .i64 (Int.tdiv v 8)) 8, r.map unp, ()) = unpOf v r := rfl
        rw [e, spec_TableValid_ok _ (by simp [unpOf]; omega)]
        cases tabV (unpOf v r) <;> rfl

theorem Clip_Cap_ok (b : List DCap) : slices_Clip_Cap b = some b := by
  unfold slices_Clip_Cap slices_Clip_CapK
  rw [chk_pos (by omega), chk_pos (by omega)]

theorem clone_Cap_ok (xs : List DCap) (h : xs.length ≤ 1048577) : impl_clone_Cap xs = some xs := by
  unfold impl_clone_Cap impl_clone_CapK slices_Clone_Cap slices_Clone_CapK
  rw [chk_pos (by simp only [bigRow]; omega)]
  simp [Clip_Cap_ok]

theorem impl_UnpackTable_ok (xs : List Int) (h : xs.length ≤ 1048576) (hx : ∀ x ∈ xs, x ≤ 9223372036854775807) : impl_UnpackTable xs = some (unpT xs) := by
  unfold impl_UnpackTable impl_UnpackTableK
  cases xs with
  | nil => rfl
  | cons v r =>
    simp only [List.length_cons] at h
    have e0 : (!(((v :: r).length : Int) == 0)) = true := by simp; omega
    have eg : (v :: r)[0]? = some v := rfl
    simp only [e0, cond_true, getK_some eg]
    rw [chk_pos (by simp)]
    by_cases hv : v < 0
    · simp [hv, unpT]
    · have ed : (v :: r).drop 1 = r := rfl
      rw [ed, impl_Unpack_loop r (by omega) (fun x hm => hx x (List.mem_cons_of_mem _ hm))]
      simp only [hv, decide_false, cond_false, unpT]
      cases ha : r.all unpV with
      | false => simp [endK]
      | true =>
        simp only [cond_true, some_bind', endK, Bool.true_and]
        rw [clone_Cap_ok _ (by simp; omega)]
        have e : (Int.tmod v 8, IntKind.wrap .i64 (Int.tdiv v 64), Int.tmod (IntKind.wrap .i64 (Int.tdiv v 8)) 8, r.map unp, ()) = unpOf v r := rfl
        simp only [some_bind']
        rw [e, impl_TableValid_ok _ (by simp [unpOf]; omega)]
        cases tabV (unpOf v r) <;> rfl

theorem unpT_length (xs : List Int) : (unpT xs).2.2.2.2.length ≤ xs.length := by
  unfold unpT
  cases xs with
  | nil => simp
  | cons v r =>
    simp only
    cases decide (v < 0) with
    | true => simp
    | false =>
      simp only [cond_false]
      cases (r.all unpV && tabV (unpOf v r)) <;> simp

theorem heldTable_ok (a b c : Int) (n : Nat) (h : n ≤ 1048577) : laws_heldTable (a, b, c, marks ECap 4 n 1, ()) 1 = some (1 + 4 * (n : Int)) := by
  unfold laws_heldTable laws_heldTableK
  rw [heldCapS_ok n 1 (by omega) (by omega) h]
  have : ¬ ((1 : Int) + 4 * (n : Int) < 0) := by omega
  simp [this]

theorem FnExactUnpackTable_law (xs : List Int) (h : WfD (.cons (.sl I) .nil) (xs, ())) : laws_FnExactUnpackTable xs = some true := by
  unfold laws_FnExactUnpackTable laws_FnExactUnpackTableK
  by_cases hs : (xs.length : Int) > 1048576
  · simp [hs]
  · have hl : xs.length ≤ 1048576 := by omega
    have hx : ∀ x ∈ xs, x ≤ 9223372036854775807 := fun x hm => (h.1.2 x hm).2
    have hu := unpT_length xs
    have k1 : ¬ ((1 : Int) + 4 * ((unpT xs).2.2.2.2.length : Int) < 0) := by omega
    have k2 : ¬ ((1 : Int) + 1 * (xs.length : Int) < 0) := by omega
    have k3 : ¬ ((1 : Int) + (xs.length : Int) < 0) := by omega
    simp [hs, toIntS_ok xs (by omega), impl_UnpackTable_ok xs hl hx, spec_UnpackTable_ok xs hl, eqIntS_ok xs xs (by omega), eqTable_ok ((unpT xs).1, (unpT xs).2.1, (unpT xs).2.2.1, (unpT xs).2.2.2.2, ()) ((unpT xs).1, (unpT xs).2.1, (unpT xs).2.2.1, (unpT xs).2.2.2.2, ()) (show (unpT xs).2.2.2.2.length ≤ 1048577 by omega),
      markIntS_ok xs 1 (by omega) (by omega), markTable_ok _ _ _ (unpT xs).2.2.2.2 (by omega), heldTable_ok _ _ _ (unpT xs).2.2.2.2.length (by omega), k1, k2, k3]

end Go.Ev
