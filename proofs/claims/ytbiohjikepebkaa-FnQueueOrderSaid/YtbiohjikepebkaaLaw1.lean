/-
  Plain laws of queues: rows, copies, validity.
-/
import Derived.Test.YtbiohjikepebkaaDefs
import Derived.Test.YtbiohjikepebkaaEv4
namespace Go.Ev
set_option linter.unusedVariables false
set_option linter.unusedSimpArgs false
set_option maxRecDepth 100000
set_option synthInstance.maxSize 2000
set_option synthInstance.maxHeartbeats 400000
/-- in a range -/
theorem in_ok (n lo hi : Int) : impl_in n lo hi = some (decide (lo ≤ n) && decide (n ≤ hi)) := by
  unfold impl_in impl_inK
  by_cases h : n ≥ lo
  · have h' : lo ≤ n := h
    simp [h, h']
  · have h' : ¬ lo ≤ n := h
    simp [h, h']

theorem l1In_ok (n lo hi : Int) : spec_l1In n lo hi = some (decide (lo ≤ n) && decide (n ≤ hi)) := by
  unfold spec_l1In spec_l1InK
  by_cases h : n ≥ lo
  · have h' : lo ≤ n := h
    simp [h, h']
  · have h' : ¬ lo ≤ n := h
    simp [h, h']


/-- in a range -/
def rgt (a lo hi : Int) : Bool := decide (lo ≤ a) && decide (a ≤ hi)


/-- the first element that is wanted -/
theorem goL_find {α τ : Type} (p : α → Bool) (G : Nat → τ) (N : τ) : ∀ (r : List α) (i : Nat), goL (fun i x (_ : Unit) => bif p x then .inr (G i) else .inl ()) (fun _ => N) r i () = match r.findIdx? p with | some j => G (i + j) | none => N
  | [], _ => rfl
  | x :: r, i => by
    simp only [goL, List.findIdx?_cons]
    cases h : p x with
    | true => simp
    | false =>
      simp only [cond_false, Bool.false_eq_true, if_false]
      rw [goL_find p G N r (i + 1)]
      cases r.findIdx? p with
      | none => rfl
      | some j => simp only [Option.map_some]; congr 1; omega

theorem take_over {α : Type} (xs ys : List α) {n : Nat} (h : n ≤ xs.length) : (over xs n ys).take n = xs.take n := by
  unfold over
  rw [List.append_assoc, List.take_append_of_le_length (by simp; omega), List.take_take, Nat.min_self]

theorem take_over' {α : Type} (xs ys : List α) {n : Nat} (h : n ≤ xs.length) : (over xs n ys).take (n + ys.length) = xs.take n ++ ys := by
  unfold over
  rw [List.take_append_of_le_length (by simp; omega), List.take_of_length_le (by simp; omega)]

theorem over_len {α : Type} (xs ys : List α) (n : Nat) (h : n + ys.length ≤ xs.length) : (over xs n ys).length = xs.length := by
  simp [over]; omega


theorem toIntS_ok (xs : List Int) (h : xs.length ≤ 1048577) : laws_toIntS xs = some xs := by
  have hl : loopF laws_toIntS_l0 (xs, 0, List.replicate xs.length 0, ()) = some (xs.map id, ()) := by
    refine loop_map xs id (fun i s => (xs, (i : Int), s, ())) (fun s => (s, ())) _ (by simp) (fun i x s hs hx => ?_) (fun s hs => ?_) rfl
    · have hl := get_lt hx
      simp only [laws_toIntS_l0, laws_toIntS_l0K, dec_lt hx, cond_true, nnK_nat, getK_some hx, B7]
      rw [chk_pos (by omega), getK_lt (by omega), wrapS (by omega)]
      rfl
    · simp only [laws_toIntS_l0, laws_toIntS_l0K, dec_nlt, cond_false]
  unfold laws_toIntS laws_toIntSK
  rw [chk_pos (by simp [bigRow]; omega), hl]
  simp

theorem eqIntS_ok (xs ys : List Int) (h : xs.length ≤ 1048577) : laws_eqIntS xs ys = some (decide (xs = ys)) := by
  unfold laws_eqIntS laws_eqIntSK
  by_cases hl : xs.length = ys.length
  · have e : ((xs.length : Int) != (ys.length : Int)) = false := by simp [hl]
    have hq : loopF laws_eqIntS_l0 (xs, ys, 0, ()) = some (if xs = ys then .inl () else .inr (false, ())) := by
      refine loop_eq2 xs ys (fun i => (xs, ys, (i : Int), ())) _ _ hl (fun i x y hx hy => ?_) ?_ rfl
      · have hl := get_lt hx
        simp only [laws_eqIntS_l0, laws_eqIntS_l0K, dec_lt hx, cond_true, nnK_nat, getK_some hx, getK_some hy, B7, wrapS (show i < 4611686018427387904 by omega)]
        by_cases e : x = y
        · simp [e]
        · have : (x != y) = true := bne_iff_ne.mpr e
          simp [e, this]
      · simp only [laws_eqIntS_l0, laws_eqIntS_l0K, dec_nlt, cond_false]
    rw [e, cond_false, hq]
    by_cases h : xs = ys <;> simp [h, endK]
  · have e : ((xs.length : Int) != (ys.length : Int)) = true := by simp; omega
    rw [e, cond_true]
    have : ¬ xs = ys := fun e => hl (by rw [e])
    simp [this]

def EInt (k : Int) : Int := k

theorem markIntS_ok (xs : List Int) (k : Int) (hk : 0 ≤ k) (hK : k + 1 * (xs.length : Int) ≤ 1000000000000) : laws_markIntS k xs = some (k + 1 * (xs.length : Int), marks EInt 1 xs.length k) := by
  have : loopF laws_markIntS_l0 (k, 0, xs, ()) = some (k + (1 : Nat) * xs.length, marks EInt 1 xs.length k, ()) := by
    refine loop_mark EInt 1 (fun i k s => (k, (i : Int), s, ())) (fun k s => (k, s, ())) xs k 1000000000000 hk hK (fun i k s hk hkK hs hi => ?_) (fun k s hs => ?_) rfl
    · have hi' : i < s.length := by omega
      have hd : decide ((i : Int) < (s.length : Int)) = true := by simp; omega
      have w1 : IntKind.wrap .i64 (k + 1) = k + 1 := wrap64 (by omega) (by omega)
      have ws : IntKind.wrap .i64 ((i : Int) + 1) = (i : Int) + 1 := wrap64 (by omega) (by omega)
      simp [laws_markIntS_l0, laws_markIntS_l0K, hd, nnK_nat, chk, getK, hi', w1, ws, EInt, Int.add_assoc]
    · have hd : decide ((xs.length : Int) < (s.length : Int)) = false := by simp; omega
      simp only [laws_markIntS_l0, laws_markIntS_l0K, hd, cond_false]
  unfold laws_markIntS laws_markIntSK
  rw [this]
  rfl

theorem heldIntS_ok (n : Nat) (k : Int) (hk : 0 ≤ k) (hK : k + 1 * (n : Int) ≤ 1000000000000) (hn : n ≤ 1048577) : laws_heldIntS (marks EInt 1 n k) k = some (k + 1 * (n : Int)) := by
  have : loopF laws_heldIntS_l0 (marks EInt 1 n k, k, 0, ()) = some (.inl (k + (1 : Nat) * n, ())) := by
    refine loop_held (nxt := laws_heldIntS_l0) EInt 1 n k (fun i k' => (marks EInt 1 n k, k', (i : Int), ())) (fun k => Sum.inl (k, ())) 1000000000000 hk hK (fun i k' hk hkK hx => ?_) (fun k => ?_) rfl
    · have hl := get_lt hx
      rw [marks_length] at hl
      have w1 : IntKind.wrap .i64 (k' + 1) = k' + 1 := wrap64 (by omega) (by omega)
      have ws : IntKind.wrap .i64 ((i : Int) + 1) = (i : Int) + 1 := wrap64 (by omega) (by omega)
      simp [laws_heldIntS_l0, laws_heldIntS_l0K, get_lt hx, nnK_nat, getK_some hx, w1, ws, EInt, bneI, Int.add_assoc]
    · simp [laws_heldIntS_l0, laws_heldIntS_l0K, marks_length]
  unfold laws_heldIntS laws_heldIntSK
  rw [this]
  rfl


/-! ### rows: is an element there? -/

def noneI (xs : List Int) (i : Nat) (n : Int) : Bool := (xs.take i).all fun x => !decide (x = n)
def ixI (xs : List Int) (n : Int) : Int := match xs.findIdx? (fun x => decide (x = n)) with | some j => (j : Int) | none => -1

theorem Index_ok (xs : List Int) (n : Int) (h : xs.length ≤ 1048577) : slices_Index_int xs n = some (ixI xs n) := by
  unfold slices_Index_int slices_Index_intK ixI
  have : loopF slices_Index_int_l0 (xs, n, (xs.length : Int), 0, ()) = some _ := loop_list0 (nxt := slices_Index_int_l0) xs (fun i (_ : Unit) => (xs, n, (xs.length : Int), (i : Int), ())) (fun i x _ => bif decide (x = n) then .inr (.inr ((i : Int), ())) else .inl ()) (fun _ => .inl ()) ()
    (fun i x s hx => ?_) (fun s => ?_) rfl
  · rw [this, goL_find (fun x : Int => decide (x = n)) (fun i => (.inr ((i : Int), ()) : Unit ⊕ (Int × Unit))) (.inl ())]
    cases xs.findIdx? (fun x => decide (x = n)) <;> simp [endK]
  · have hl := get_lt hx
    have e : decide (n = x) = decide (x = n) := by rw [Bool.eq_iff_iff]; simp [eq_comm]
    simp only [slices_Index_int_l0, slices_Index_int_l0K, dec_lt hx, cond_true, nnK_nat, getK_some hx, B7, wrapS (show i < 4611686018427387904 by omega), goTo_if, goTo_l, goTo_r, beqI, e]
    cases decide (x = n) <;> rfl
  · simp only [slices_Index_int_l0, slices_Index_int_l0K, dec_nlt, cond_false]

def hasI (xs : List Int) (n : Int) : Bool := xs.any fun x => decide (x = n)

theorem ixI_has (xs : List Int) (n : Int) : decide (ixI xs n ≥ 0) = hasI xs n := by
  unfold ixI hasI
  rw [Bool.eq_iff_iff, decide_eq_true_iff]
  cases hf : xs.findIdx? (fun x => decide (x = n)) with
  | none =>
    have := List.findIdx?_eq_none_iff.1 hf
    simp only [List.any_eq_true]
    constructor
    · intro h; omega
    · rintro ⟨x, hx, hd⟩; rw [this x hx] at hd; cases hd
  | some j =>
    obtain ⟨hj, hp, _⟩ := List.findIdx?_eq_some_iff_getElem.1 hf
    simp only [List.any_eq_true]
    exact ⟨fun _ => ⟨_, List.getElem_mem hj, hp⟩, fun _ => by omega⟩

theorem has_iff {L : List Int} {n : Int} : hasI L n = true ↔ n ∈ L := by
  unfold hasI
  rw [List.any_eq_true]
  constructor
  · rintro ⟨x, hx, e⟩
    rw [decide_eq_true_eq] at e
    exact e ▸ hx
  · intro h
    exact ⟨n, h, by simp⟩

theorem Contains_ok (xs : List Int) (n : Int) (h : xs.length ≤ 1048577) : slices_Contains_int xs n = some (hasI xs n) := by
  unfold slices_Contains_int slices_Contains_intK
  rw [Index_ok xs n h]
  simp only [B7, ixI_has]

theorem has_none (xs : List Int) (i : Nat) (n : Int) : hasI (xs.take i) n = !noneI xs i n := by
  unfold hasI noneI
  rw [List.not_all_eq_any_not]
  simp

theorem Clone_int_ok (xs : List Int) (h : xs.length ≤ 1048577) : slices_Clone_int xs = some xs := by
  unfold slices_Clone_int slices_Clone_intK
  rw [chk_pos (by simp only [bigRow]; omega)]

theorem Clip_int_ok (b : List Int) : slices_Clip_int b = some b := by
  unfold slices_Clip_int slices_Clip_intK
  rw [chk_pos (by omega), chk_pos (by omega)]

theorem clone_int_ok (xs : List Int) (h : xs.length ≤ 1048577) : impl_clone_int xs = some xs := by
  unfold impl_clone_int impl_clone_intK
  simp [Clone_int_ok xs h, Clip_int_ok]

theorem goL_stay {α τ : Type} (c : τ) : ∀ (r : List α) (i : Nat), goL (fun (_ : Nat) (_ : α) (_ : Unit) => (.inl () : Unit ⊕ τ)) (fun _ => c) r i () = c
  | [], _ => rfl
  | _ :: r, i => goL_stay c r (i + 1)

/-! ### rows of rows: size, copies, comparison -/

abbrev Rows := List (List Int)
/-- how many elements there are -/
def sumL (q : Rows) : Nat := q.flatten.length

theorem row_le {q : Rows} {i : Nat} {x : List Int} (h : q[i]? = some x) : x.length ≤ sumL q := by
  have hm := List.mem_of_getElem? h
  obtain ⟨a, b, rfl⟩ := List.append_of_mem hm
  unfold sumL
  simp
  omega

def szL : Rows → Int → Int
  | [], s => s
  | x :: r, s => if s - (x.length : Int) < 0 then -1 else szL r (s - (x.length : Int))

theorem szL_ok : ∀ (q : Rows) (s : Int), 0 ≤ s → (szL q s = -1 ∨ (0 ≤ szL q s ∧ szL q s + (sumL q : Int) = s)) ∧ -1 ≤ szL q s
  | [], s, h => by simp [szL, sumL]; omega
  | x :: r, s, h => by
    unfold szL
    split
    · exact ⟨.inl rfl, by omega⟩
    · have := szL_ok r (s - (x.length : Int)) (by omega)
      have e : sumL (x :: r) = x.length + sumL r := by simp [sumL]
      rw [e]
      refine ⟨?_, this.2⟩
      rcases this.1 with q | q
      · exact .inl q
      · exact .inr ⟨q.1, by omega⟩

theorem szIntSS_ok (q : Rows) (h1 : q.length ≤ 9223372036854775807) (h2 : ∀ x ∈ q, x.length ≤ 9223372036854775807) : ∃ r, laws_szIntSS q 1048576 = some r ∧ (¬ r < 0 → q.length + sumL q ≤ 1048576) := by
  unfold laws_szIntSS laws_szIntSSK
  rw [wrap64 (by omega) (by omega)]
  by_cases h0 : (1048576 : Int) - (q.length : Int) < 0
  · rw [decide_eq_true h0]
    exact ⟨-1, rfl, fun h => absurd (by omega) h⟩
  · rw [decide_eq_false h0]
    have key : ∀ (r : Rows) (i : Nat) (s : Int), q.drop i = r → 0 ≤ s → s ≤ 1048576 → i ≤ q.length → loopF laws_szIntSS_l0 (q, s, (i : Int), ()) = some (if szL r s < 0 then .inr (-1, ()) else .inl (szL r s, ())) := by
      intro r
      induction r with
      | nil =>
        intro i s hd h0 h1 hi
        have hl : i = q.length := by
          have := congrArg List.length hd
          simp at this; omega
        subst hl
        have : ¬ s < 0 := by omega
        simp only [szL, this, if_false]
        exact loopF_inr (by simp only [laws_szIntSS_l0, laws_szIntSS_l0K, dec_nlt, cond_false])
      | cons x r ih =>
        intro i s hd h0 h1 hi
        obtain ⟨hx, hr⟩ := drop_get hd
        have hxl := h2 x (List.mem_of_getElem? hx)
        have hl := get_lt hx
        unfold szL
        by_cases hs : s - (x.length : Int) < 0
        · rw [if_pos hs]
          refine loopF_inr ?_
          simp only [laws_szIntSS_l0, laws_szIntSS_l0K, dec_lt hx, cond_true, nnK_nat, getK_some hx, laws_szIntS, laws_szIntSK]
          rw [wrap64 (by omega) (by omega), decide_eq_true hs]
          rfl
        · rw [if_neg hs]
          rw [← ih (i + 1) (s - (x.length : Int)) hr (by omega) (by omega) (by omega)]
          refine loopF_inl ?_
          simp only [laws_szIntSS_l0, laws_szIntSS_l0K, dec_lt hx, cond_true, nnK_nat, getK_some hx, laws_szIntS, laws_szIntSK]
          rw [wrap64 (n := s - (x.length : Int)) (by omega) (by omega), decide_eq_false hs]
          simp only [cond_false, B7, decide_eq_false hs]
          rw [show IntKind.wrap .i64 ((i : Int) + 1) = ((i + 1 : Nat) : Int) from by rw [wrap64 (by omega) (by omega)]; rfl]
    have hk := key q 0 ((1048576 : Int) - (q.length : Int)) (by simp) (by omega) (by omega) (Nat.zero_le _)
    simp only [cond_false]
    have e : ((0 : Nat) : Int) = 0 := rfl
    rw [e] at hk
    rw [hk]
    obtain ⟨k1, k2⟩ := szL_ok q ((1048576 : Int) - (q.length : Int)) (by omega)
    by_cases hz : szL q ((1048576 : Int) - (q.length : Int)) < 0
    · rw [if_pos hz]
      exact ⟨-1, rfl, fun h => absurd (by omega) h⟩
    · rw [if_neg hz]
      refine ⟨_, rfl, fun _ => ?_⟩
      rcases k1 with q1 | q1
      · omega
      · omega

theorem toIntSS_ok (q : Rows) (h : q.length + sumL q ≤ 1048577) : laws_toIntSS q = some q := by
  have hl : loopF laws_toIntSS_l0 (q, 0, List.replicate q.length [], ()) = some (q.map id, ()) := by
    refine loop_map q id (fun i s => (q, (i : Int), s, ())) (fun s => (s, ())) _ (by simp) (fun i x s hs hx => ?_) (fun s hs => ?_) rfl
    · have hl := get_lt hx
      have := row_le hx
      simp only [laws_toIntSS_l0, laws_toIntSS_l0K, dec_lt hx, cond_true, nnK_nat, getK_some hx, toIntS_ok x (by omega), B7]
      rw [chk_pos (by omega), chk_pos (by omega), wrapS (by omega)]
      rfl
    · simp only [laws_toIntSS_l0, laws_toIntSS_l0K, dec_nlt, cond_false]
  unfold laws_toIntSS laws_toIntSSK
  rw [chk_pos (by simp [bigRow]; omega), hl]
  simp

theorem eqIntSS_ok (q : Rows) (h : q.length + sumL q ≤ 1048577) : laws_eqIntSS q q = some true := by
  unfold laws_eqIntSS laws_eqIntSSK
  have e : ((q.length : Int) != (q.length : Int)) = false := by simp
  have := loop_list0 (nxt := laws_eqIntSS_l0) q (fun i (_ : Unit) => (q, q, (i : Int), ())) (fun _ _ _ => .inl ()) (fun _ => .inl ()) ()
    (fun i x s hx => ?_) (fun s => ?_) (st := (q, q, 0, ())) rfl
  · rw [e, cond_false, this, goL_stay]
    rfl
  · have hl := get_lt hx
    have := row_le hx
    simp only [laws_eqIntSS_l0, laws_eqIntSS_l0K, dec_lt hx, cond_true, nnK_nat, getK_some hx, eqIntS_ok x x (by omega), B7, decide_true, Bool.not_true, cond_false, wrapS (show i < 4611686018427387904 by omega), goTo_l]
  · simp only [laws_eqIntSS_l0, laws_eqIntSS_l0K, dec_nlt, cond_false]

theorem toQueues_ok (q : Rows) (h : q.length + sumL q ≤ 1048577) : laws_toQueues (q, ()) = some q := by
  unfold laws_toQueues laws_toQueuesK
  simp only [toIntSS_ok q h, B7]

theorem eqQueues_ok (q : Rows) (h : q.length + sumL q ≤ 1048577) : laws_eqQueues (q, ()) (q, ()) = some true := by
  unfold laws_eqQueues laws_eqQueuesK
  simp only [eqIntSS_ok q h, B7]
  rfl

theorem copyOf_ok (q : Rows) (h : q.length + sumL q ≤ 1048577) : impl_Queues_copyOf (q, ()) = some q := by
  have hl : loopF impl_Queues_copyOf_l0 (q, (q.length : Int), 0, List.replicate q.length [], ()) = some (q.map id, ()) := by
    refine loop_map q id (fun i s => (q, (q.length : Int), (i : Int), s, ())) (fun s => (s, ())) _ (by simp) (fun i x s hs hx => ?_) (fun s hs => ?_) rfl
    · have hl := get_lt hx
      have := row_le hx
      simp only [impl_Queues_copyOf_l0, impl_Queues_copyOf_l0K, dec_lt hx, cond_true, nnK_nat, getK_some hx, clone_int_ok x (by omega), B7]
      rw [chk_pos (by omega), chk_pos (by omega), wrapS (by omega)]
      rfl
    · simp only [impl_Queues_copyOf_l0, impl_Queues_copyOf_l0K, dec_nlt, cond_false]
  unfold impl_Queues_copyOf impl_Queues_copyOfK
  rw [chk_pos (by simp [bigRow]; omega), hl]
  simp

theorem fold_snoc {α : Type} : ∀ (r s : List α), r.foldl (fun s x => s ++ [x]) s = s ++ r
  | [], s => by simp
  | x :: r, s => by rw [List.foldl_cons, fold_snoc r]; simp

theorem l8Copy_ok (q : Rows) (h : q.length + sumL q ≤ 1048577) : spec_l8Copy (q, ()) = some q := by
  unfold spec_l8Copy spec_l8CopyK
  have := loop_list1 (nxt := spec_l8Copy_l0) q (fun i s => ((q, ()), (i : Int), [], s, ())) (fun _ x s => .inl (s ++ [x])) (fun s => ([], s, ())) (fun i s => s.length = i) []
    (fun i x s hs hx => ?_) (fun i x s s' hs hx e => ?_) (fun s _ => ?_) rfl (st := ((q, ()), 0, [], [], ())) rfl
  · rw [this, goL_fold (fun s x => s ++ [x]), fold_snoc]
    simp
  · have hl := get_lt hx
    have := row_le hx
    simp only [spec_l8Copy_l0, spec_l8Copy_l0K, dec_lt hx, cond_true, nnK_nat, getK_some hx, wrapS (show i < 4611686018427387904 by omega), goTo_l]
    rw [chk_pos (by simp only [bigRow]; omega), chk_pos (by simp only [bigRow]; omega)]
  · cases e; simp [hs]
  · simp only [spec_l8Copy_l0, spec_l8Copy_l0K, dec_nlt, cond_false]

/-! ### valid queues -/

def difV (l : List Int) : Bool := l.zipIdx.all fun p => rgt p.1 0 15 && noneI l p.2 p.1
def qV (q : Rows) : Bool := decide (q.length = 8) && difV q.flatten

theorem dif_iff {l : List Int} : difV l = true ↔ (∀ x ∈ l, 0 ≤ x ∧ x ≤ 15) ∧ l.Nodup := by
  unfold difV
  rw [all_zip0 (p := fun i v => rgt v 0 15 && noneI l i v)]
  have key : ∀ (i : Nat) (v : Int), l[i]? = some v → (noneI l i v = true ↔ ∀ j, j < i → l[j]? ≠ some v) := fun i v hv => by
    unfold noneI
    rw [List.all_eq_true]
    have hi := get_lt hv
    constructor
    · intro h j hj e
      have := h v (List.mem_take_iff_getElem.2 ⟨j, by omega, (List.getElem?_eq_some_iff.1 e).2⟩)
      simp at this
    · intro h x hx
      obtain ⟨j, hj, rfl⟩ := List.mem_take_iff_getElem.1 hx
      simp only [Bool.not_eq_true', decide_eq_false_iff_not]
      intro e
      exact h j (by omega) (by rw [← e]; exact List.getElem?_eq_getElem (by omega))
  constructor
  · intro h
    refine ⟨fun x hx => ?_, ?_⟩
    · obtain ⟨i, hi⟩ := List.getElem?_of_mem hx
      have := h i x hi
      simp only [rgt, Bool.and_eq_true, decide_eq_true_eq] at this
      exact this.1
    · unfold List.Nodup
      rw [List.pairwise_iff_getElem]
      intro i j hi hj hij e
      have hv := List.getElem?_eq_getElem hj
      have := h j _ hv
      rw [Bool.and_eq_true, key j _ hv] at this
      exact this.2 i hij (by rw [← e]; exact List.getElem?_eq_getElem hi)
  · rintro ⟨h1, h2⟩ i v hv
    rw [Bool.and_eq_true, key i v hv]
    refine ⟨by simpa [rgt] using h1 v (List.mem_of_getElem? hv), fun j hj e => ?_⟩
    unfold List.Nodup at h2
    rw [List.pairwise_iff_getElem] at h2
    obtain ⟨a1, a2⟩ := List.getElem?_eq_some_iff.1 hv
    obtain ⟨b1, b2⟩ := List.getElem?_eq_some_iff.1 e
    exact h2 j i b1 a1 hj (by rw [a2, b2])

theorem qV_iff {q : Rows} : qV q = true ↔ q.length = 8 ∧ (∀ x ∈ q.flatten, 0 ≤ x ∧ x ≤ 15) ∧ q.flatten.Nodup := by
  unfold qV
  rw [Bool.and_eq_true, decide_eq_true_eq, dif_iff]

theorem different_ok (l : List Int) (h : l.length ≤ 1048577) : impl_different l = some (difV l) := by
  unfold impl_different impl_differentK difV
  have : loopF impl_different_l0 (l, l, (l.length : Int), 0, ()) = some _ := loop_list0 (nxt := impl_different_l0) l (fun i (_ : Unit) => (l, l, (l.length : Int), (i : Int), ())) (fun i x _ => bif rgt x 0 15 && noneI l i x then .inl () else .inr (.inr (false, ()))) (fun _ => .inl ()) ()
    (fun i x s hx => ?_) (fun s => ?_) rfl
  · rw [this, goL_all (fun i x => rgt x 0 15 && noneI l i x)]
    cases (l.zipIdx.all fun q => rgt q.1 0 15 && noneI l q.2 q.1) <;> rfl
  · have hl := get_lt hx
    simp only [impl_different_l0, impl_different_l0K, dec_lt hx, cond_true, nnK_nat, getK_some hx, B7, wrapS (show i < 4611686018427387904 by omega), goTo_if, goTo_l, goTo_r, impl_isThread, impl_isThreadK, in_ok]
    rw [chk_pos (by omega), Contains_ok _ _ (by simp; omega), has_none]
    simp only [B7, rgt]
    generalize (decide (0 ≤ x) && decide (x ≤ 15)) = b1
    generalize noneI l i x = b2
    cases b1 <;> cases b2 <;> rfl
  · simp only [impl_different_l0, impl_different_l0K, dec_nlt, cond_false]

theorem Concat_ok (q : Rows) (h : q.length + sumL q ≤ 1048577) : ∃ r, slices_Concat_int q = some r ∧ (r.2.drop 0).take r.1 = q.flatten := by
  unfold slices_Concat_int slices_Concat_intK
  have key0 : ∀ (r : Rows) (i : Nat) (s : Nat), q.drop i = r → i ≤ q.length → s + sumL r ≤ 1048577 → loopF slices_Concat_int_l0 (q, (s : Int), q, (q.length : Int), (i : Int), ()) = some (q, ((s + sumL r : Nat) : Int), ()) := by
    intro r
    induction r with
    | nil =>
      intro i s hd hi hs
      have hl : i = q.length := by
        have := congrArg List.length hd
        simp at this; omega
      subst hl
      refine loopF_inr ?_
      simp only [slices_Concat_int_l0, slices_Concat_int_l0K, dec_nlt, cond_false]
      rfl
    | cons x r ih =>
      intro i s hd hi hs
      obtain ⟨hx, hr⟩ := drop_get hd
      have hl := get_lt hx
      have e : sumL (x :: r) = x.length + sumL r := by simp [sumL]
      rw [e] at hs ⊢
      rw [show s + (x.length + sumL r) = (s + x.length) + sumL r by omega, ← ih (i + 1) (s + x.length) hr (by omega) (by omega)]
      refine loopF_inl ?_
      have w : IntKind.wrap .i64 ((s : Int) + (x.length : Int)) = ((s + x.length : Nat) : Int) := by rw [wrap64 (by omega) (by omega)]; omega
      simp only [slices_Concat_int_l0, slices_Concat_int_l0K, dec_lt hx, cond_true, nnK_nat, getK_some hx, w]
      rw [decide_eq_false (by omega), wrapS (by omega)]
      rfl
  have hk := key0 q 0 0 (by simp) (Nat.zero_le _) (by omega)
  have e0 : ((0 : Nat) : Int) = 0 := rfl
  rw [e0, Nat.zero_add] at hk
  rw [hk]
  simp only [B7]
  have hg : ∃ zs, slices_Grow_int (sumL q : Int) = some (0, zs) ∧ zs.length = sumL q := by
    unfold slices_Grow_int slices_Grow_intK
    rw [show decide ((sumL q : Int) < 0) = false from decide_eq_false (by omega)]
    have w : IntKind.wrap .i64 ((sumL q : Int) - IntKind.wrap .i64 ((0 : Int) - (0 : Int))) = ((sumL q : Nat) : Int) := by
      rw [wrap64 (n := (0 : Int) - 0) (by omega) (by omega), wrap64 (by omega) (by omega)]; omega
    simp only [w, cond_false]
    by_cases hz : sumL q = 0
    · rw [hz]
      exact ⟨[], rfl, rfl⟩
    · rw [show decide (((sumL q : Nat) : Int) > 0) = true from decide_eq_true (by omega)]
      simp only [cond_true, nnK_nat]
      rw [chk_pos (by simp only [bigRow]; omega), chk_pos (by simp only [bigRow, List.length_replicate]; omega), chk_pos (Nat.zero_le _)]
      exact ⟨_, rfl, by simp⟩
  obtain ⟨zs, hg1, hg2⟩ := hg
  rw [hg1]
  simp only [B7]
  have key2 : ∀ (r : Rows) (i n : Nat) (s : List Int), q.drop i = r → i ≤ q.length → n + sumL r = s.length → s.length ≤ 1048577 → ∃ s', loopF slices_Concat_int_l2 (n, q, (q.length : Int), (i : Int), s, ()) = some (s.length, s', ()) ∧ s' = s.take n ++ r.flatten := by
    intro r
    induction r with
    | nil =>
      intro i n s hd hi hs hb
      have hl : i = q.length := by
        have := congrArg List.length hd
        simp at this; omega
      subst hl
      have hn : n = s.length := by simpa [sumL] using hs
      subst hn
      exact ⟨s, loopF_inr (by simp only [slices_Concat_int_l2, slices_Concat_int_l2K, dec_nlt, cond_false]), by simp⟩
    | cons x r ih =>
      intro i n s hd hi hs hb
      obtain ⟨hx, hr⟩ := drop_get hd
      have hl := get_lt hx
      have e : sumL (x :: r) = x.length + sumL r := by simp [sumL]
      rw [e] at hs
      have hlen : (over s (0 + n) x).length = s.length := over_len s x (0 + n) (by omega)
      obtain ⟨s', h1, h2⟩ := ih (i + 1) (n + x.length) (over s (0 + n) x) hr (by omega) (by rw [hlen]; omega) (by rw [hlen]; omega)
      refine ⟨s', ?_, ?_⟩
      · rw [hlen] at h1
        rw [← h1]
        refine loopF_inl ?_
        simp only [slices_Concat_int_l2, slices_Concat_int_l2K, dec_lt hx, cond_true, nnK_nat, getK_some hx]
        rw [chk_pos (by omega), wrapS (by omega)]
      · rw [h2, Nat.zero_add, take_over' s x (by omega), List.flatten_cons, List.append_assoc]
  obtain ⟨s', h1, h2⟩ := key2 q 0 0 zs (by simp) (Nat.zero_le _) (by omega) (by omega)
  rw [e0] at h1
  rw [h1]
  refine ⟨_, rfl, ?_⟩
  simp only [B7, List.drop_zero]
  rw [h2]
  simp only [List.take_zero, List.nil_append]
  rw [List.take_of_length_le]
  rw [hg2]
  exact Nat.le_refl _

theorem impl_QueuesValid_ok (q : Rows) (h : q.length + sumL q ≤ 1048577) : impl_QueuesValid (q, ()) = some (qV q) := by
  unfold impl_QueuesValid impl_QueuesValidK qV
  obtain ⟨r, h1, h2⟩ := Concat_ok q h
  rw [h1]
  simp only [B7, h2]
  rw [different_ok _ (by unfold sumL at h; omega)]
  by_cases h8 : q.length = 8
  · rw [h8]; rfl
  · rw [show ((q.length : Int) == (8 : Int)) = false from beq_eq_false_iff_ne.mpr (by omega), decide_eq_false h8]
    rfl

def runS : List Int → List Bool → Option (List Bool)
  | [], s => some s
  | n :: r, s => bif rgt n 0 15 && !s.getD n.toNat false then runS r (s.set n.toNat true) else none

theorem runS_app : ∀ (a b : List Int) (s : List Bool), runS (a ++ b) s = (runS a s).bind (runS b)
  | [], b, s => rfl
  | n :: a, b, s => by
    simp only [List.cons_append, runS]
    cases (rgt n 0 15 && !s.getD n.toNat false) with
    | false => rfl
    | true => exact runS_app a b _

theorem runS_len : ∀ (a : List Int) (s s' : List Bool), runS a s = some s' → s'.length = s.length
  | [], s, s', h => by obtain rfl := Option.some.inj h; rfl
  | n :: a, s, s', h => by
    simp only [runS] at h
    cases hc : (rgt n 0 15 && !s.getD n.toNat false) with
    | false => rw [hc] at h; cases h
    | true => rw [hc] at h; have := runS_len a _ _ h; simpa using this

theorem runS_dif : ∀ (r a : List Int) (s : List Bool), s.length = 16 → (∀ m : Nat, m < 16 → s.getD m false = hasI a (m : Int)) → (runS r s).isSome = (r.zipIdx a.length).all fun p => rgt p.1 0 15 && noneI (a ++ r) p.2 p.1
  | [], a, s, _, _ => rfl
  | n :: r, a, s, hl, hs => by
    simp only [runS, List.zipIdx_cons, List.all_cons]
    have hn : noneI (a ++ n :: r) a.length n = !hasI a n := by
      have := has_none (a ++ n :: r) a.length n
      rw [List.take_left] at this
      rw [this]; simp
    rw [hn]
    by_cases hr : 0 ≤ n ∧ n ≤ 15
    · have e1 : rgt n 0 15 = true := by simp [rgt, hr.1, hr.2]
      have e2 : s.getD n.toNat false = hasI a n := by
        have := hs n.toNat (by omega)
        rwa [Int.toNat_of_nonneg hr.1] at this
      rw [e1, e2]
      cases hh : hasI a n with
      | true => rfl
      | false =>
        simp only [Bool.not_false, Bool.and_self, cond_true, Bool.true_and]
        have := runS_dif r (a ++ [n]) (s.set n.toNat true) (by simpa using hl) (fun m hm => ?_)
        · rw [this]
          simp only [List.length_append, List.length_singleton, List.append_assoc, List.singleton_append]
        · unfold hasI
          rw [List.any_append]
          by_cases hmn : n.toNat = m
          · subst hmn
            have : (s.set n.toNat true).getD n.toNat false = true := by simp [List.getD, hl, hm]
            rw [this]
            have : decide (n = ((n.toNat : Nat) : Int)) = true := decide_eq_true (by omega)
            simp only [List.any_cons, List.any_nil, this, Bool.true_or, Bool.or_true]
          · have h1 : (s.set n.toNat true).getD m false = s.getD m false := by simp [List.getD, List.getElem?_set_ne hmn]
            rw [h1, hs m hm]
            have : decide (n = (m : Int)) = false := decide_eq_false (by omega)
            simp [hasI, this]
    · have e1 : rgt n 0 15 = false := by
        rw [← Bool.not_eq_true]
        intro q
        simp only [rgt, Bool.and_eq_true, decide_eq_true_eq] at q
        exact hr q
      rw [e1]
      rfl

theorem valid_inner (q : Rows) (p : Nat) (x : List Int) (hp : q[p]? = some x) (hx : x.length ≤ 1048577) (s : List Bool) (hs : s.length = 16) :
    loopF spec_QueuesValid_l2 ((q, ()), (p : Int), 0, s, ()) = some (match runS x s with | some s' => .inl ((q, ()), (p : Int), s', ()) | none => .inr (false, ())) := by
  have key : ∀ (r : List Int) (i : Nat) (s : List Bool), x.drop i = r → i ≤ x.length → s.length = 16 → loopF spec_QueuesValid_l2 ((q, ()), (p : Int), (i : Int), s, ()) = some (match runS r s with | some s' => .inl ((q, ()), (p : Int), s', ()) | none => .inr (false, ())) := by
    intro r
    induction r with
    | nil =>
      intro i s hd hi hs
      have hl : i = x.length := by
        have := congrArg List.length hd
        simp at this; omega
      subst hl
      refine loopF_inr ?_
      simp only [spec_QueuesValid_l2, spec_QueuesValid_l2K, nnK_nat, getK_some hp, dec_nlt, cond_false]
      rfl
    | cons n r ih =>
      intro i s hd hi hs
      obtain ⟨hn, hr⟩ := drop_get hd
      have hl := get_lt hn
      unfold runS
      by_cases hrg : 0 ≤ n ∧ n ≤ 15
      · have e1 : rgt n 0 15 = true := by simp [rgt, hrg.1, hrg.2]
        have e2 : (decide (0 ≤ n) && decide (n ≤ 15)) = true := e1
        have hlt : n.toNat < s.length := by omega
        have hget : s[n.toNat]? = some (s.getD n.toNat false) := by simp [List.getD, hlt]
        cases hb : s.getD n.toNat false with
        | true =>
          refine loopF_inr ?_
          simp only [spec_QueuesValid_l2, spec_QueuesValid_l2K, nnK_nat, getK_some hp, dec_lt hn, cond_true, getK_some hn, l1In_ok, B7, e2, Bool.not_true, Bool.not_false, nnK_pos hrg.1]
          rw [chk_pos hlt, getK_some hget, hb, e1]
          rfl
        | false =>
          have hthis := ih (i + 1) (s.set n.toNat true) hr (by omega) (by simpa using hs)
          rw [e1]
          simp only [Bool.not_false, Bool.and_self, cond_true]
          rw [← hthis]
          refine loopF_inl ?_
          simp only [spec_QueuesValid_l2, spec_QueuesValid_l2K, nnK_nat, getK_some hp, dec_lt hn, cond_true, getK_some hn, l1In_ok, B7, e2, Bool.not_true, Bool.not_false, nnK_pos hrg.1]
          rw [chk_pos hlt, getK_some hget, hb, cond_false, chk_pos hlt, getK_some hget, wrapS (by omega)]
      · have e1 : rgt n 0 15 = false := by
          rw [← Bool.not_eq_true]
          intro q
          simp only [rgt, Bool.and_eq_true, decide_eq_true_eq] at q
          exact hrg q
        have e2 : (decide (0 ≤ n) && decide (n ≤ 15)) = false := e1
        refine loopF_inr ?_
        simp only [spec_QueuesValid_l2, spec_QueuesValid_l2K, nnK_nat, getK_some hp, dec_lt hn, cond_true, getK_some hn, l1In_ok, B7, e2, Bool.not_true, Bool.not_false, cond_false, e1, Bool.false_and]
  have := key x 0 s (by simp) (Nat.zero_le _) hs
  exact this

theorem spec_QueuesValid_ok (q : Rows) (h : q.length + sumL q ≤ 1048577) : spec_QueuesValid (q, ()) = some (qV q) := by
  unfold spec_QueuesValid spec_QueuesValidK
  have key : ∀ (r : Rows) (i : Nat) (s : List Bool), q.drop i = r → i ≤ q.length → s.length = 16 → loopF spec_QueuesValid_l0 ((q, ()), (i : Int), s, ()) = some (match runS r.flatten s with | some _ => .inl ((q, ()), ()) | none => .inr (false, ())) := by
    intro r
    induction r with
    | nil =>
      intro i s hd hi hs
      have hl : i = q.length := by
        have := congrArg List.length hd
        simp at this; omega
      subst hl
      refine loopF_inr ?_
      simp only [spec_QueuesValid_l0, spec_QueuesValid_l0K, dec_nlt, cond_false]
      rfl
    | cons x r ih =>
      intro i s hd hi hs
      obtain ⟨hx, hr⟩ := drop_get hd
      have hl := get_lt hx
      have hxl := row_le hx
      have hin := valid_inner q i x hx (by omega) s hs
      rw [List.flatten_cons, runS_app]
      cases hrun : runS x s with
      | none =>
        rw [hrun] at hin
        refine loopF_inr ?_
        simp only [spec_QueuesValid_l0, spec_QueuesValid_l0K, dec_lt hx, cond_true, hin, B7, endK]
        rfl
      | some s' =>
        rw [hrun] at hin
        have := ih (i + 1) s' hr (by omega) (by rw [runS_len x s s' hrun]; exact hs)
        simp only [Option.bind_some]
        rw [← this]
        refine loopF_inl ?_
        simp only [spec_QueuesValid_l0, spec_QueuesValid_l0K, dec_lt hx, cond_true, hin, B7, endK, wrapS (show i < 4611686018427387904 by omega)]
  have hk := key q 0 (List.replicate 16 false) (by simp) (Nat.zero_le _) (by simp)
  have e0 : ((0 : Nat) : Int) = 0 := rfl
  rw [e0] at hk
  rw [hk]
  have hd := runS_dif q.flatten [] (List.replicate 16 false) (by simp) (fun m hm => by simp only [hasI, List.any_nil, List.getD, List.getElem?_replicate, hm, if_true, Option.getD_some])
  simp only [List.length_nil, List.nil_append] at hd
  have hq : qV q = (decide (q.length = 8) && (runS q.flatten (List.replicate 16 false)).isSome) := by rw [hd]; rfl
  rw [hq]
  cases runS q.flatten (List.replicate 16 false) with
  | none => simp [endK]
  | some s' =>
    simp only [B7, endK, Option.isSome_some, Bool.and_true]
    by_cases h8 : q.length = 8
    · rw [h8]; rfl
    · rw [show ((q.length : Int) == (8 : Int)) = false from beq_eq_false_iff_ne.mpr (by omega), decide_eq_false h8]

end Go.Ev
