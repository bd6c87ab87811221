/-
  Names: finding.
-/
import Derived.Test.YtmflmnknhlippaaWalk
import Derived.Test.YtmflmnknhlippaaEv4
namespace Go.Ev
set_option linter.unusedVariables false
set_option linter.unusedSimpArgs false
set_option maxRecDepth 100000
set_option synthInstance.maxSize 2000
set_option synthInstance.maxHeartbeats 400000
/-- in a range -/
theorem in_ok (n lo hi : Int) : impl_in n lo hi = some (decide (lo ≤ n) && decide (n ≤ hi)) := by
  unfold impl_in impl_inK
  by_cases h : n ≥ lo
  · have h' : lo ≤ n := h
    simp [h, h']
  · have h' : ¬ lo ≤ n := h
    simp [h, h']

theorem l1In_ok (n lo hi : Int) : spec_l1In n lo hi = some (decide (lo ≤ n) && decide (n ≤ hi)) := by
  unfold spec_l1In spec_l1InK
  by_cases h : n ≥ lo
  · have h' : lo ≤ n := h
    simp [h, h']
  · have h' : ¬ lo ≤ n := h
    simp [h, h']


/-- in a range -/
def rgt (a lo hi : Int) : Bool := decide (lo ≤ a) && decide (a ≤ hi)


/-- the first element that is wanted -/
theorem goL_find {α τ : Type} (p : α → Bool) (G : Nat → τ) (N : τ) : ∀ (r : List α) (i : Nat), goL (fun i x (_ : Unit) => bif p x then .inr (G i) else .inl ()) (fun _ => N) r i () = match r.findIdx? p with | some j => G (i + j) | none => N
  | [], _ => rfl
  | x :: r, i => by
    simp only [goL, List.findIdx?_cons]
    cases h : p x with
    | true => simp
    | false =>
      simp only [cond_false, Bool.false_eq_true, if_false]
      rw [goL_find p G N r (i + 1)]
      cases r.findIdx? p with
      | none => rfl
      | some j => simp only [Option.map_some]; congr 1; omega

theorem take_over {α : Type} (xs ys : List α) {n : Nat} (h : n ≤ xs.length) : (over xs n ys).take n = xs.take n := by
  unfold over
  rw [List.append_assoc, List.take_append_of_le_length (by simp; omega), List.take_take, Nat.min_self]

theorem take_over' {α : Type} (xs ys : List α) {n : Nat} (h : n ≤ xs.length) : (over xs n ys).take (n + ys.length) = xs.take n ++ ys := by
  unfold over
  rw [List.take_append_of_le_length (by simp; omega), List.take_of_length_le (by simp; omega)]

theorem over_len {α : Type} (xs ys : List α) (n : Nat) (h : n + ys.length ≤ xs.length) : (over xs n ys).length = xs.length := by
  simp [over]; omega

theorem toName_ok (a : DName) : laws_toName a = some a := rfl

theorem eqName_ok (a b : DName) : laws_eqName a b = some (decide (a = b)) := by
  obtain ⟨a0, a1, a2, ⟨⟩⟩ := a
  obtain ⟨b0, b1, b2, ⟨⟩⟩ := b
  unfold laws_eqName laws_eqNameK
  by_cases h0 : a0 = b0 <;> by_cases h1 : a1 = b1 <;> by_cases h2 : a2 = b2 <;> simp [h0, h1, h2, bneI, beqS, beqB]

theorem toNameS_ok (xs : List DName) (h : xs.length ≤ 1048577) : laws_toNameS xs = some xs := by
  have hl : loopF laws_toNameS_l0 (xs, 0, List.replicate xs.length (ByteArray.mk #[], 0, 0, ()), ()) = some (xs.map id, ()) := by
    refine loop_map xs id (fun i s => (xs, (i : Int), s, ())) (fun s => (s, ())) _ (by simp) (fun i x s hs hx => ?_) (fun s hs => ?_) rfl
    · have hl := get_lt hx
      simp only [laws_toNameS_l0, laws_toNameS_l0K, dec_lt hx, cond_true, nnK_nat, getK_some hx, toName_ok, some_bind']
      rw [chk_pos (by omega), getK_lt (by omega), wrapS (by omega)]
      rfl
    · simp only [laws_toNameS_l0, laws_toNameS_l0K, dec_nlt, cond_false]
  unfold laws_toNameS laws_toNameSK
  rw [chk_pos (by simp [bigRow]; omega), hl]
  simp

theorem eqNameS_ok (xs ys : List DName) (h : xs.length ≤ 1048577) : laws_eqNameS xs ys = some (decide (xs = ys)) := by
  unfold laws_eqNameS laws_eqNameSK
  by_cases hl : xs.length = ys.length
  · have e : ((xs.length : Int) != (ys.length : Int)) = false := by simp [hl]
    have hq : loopF laws_eqNameS_l0 (xs, ys, 0, ()) = some (if xs = ys then .inl () else .inr (false, ())) := by
      refine loop_eq2 xs ys (fun i => (xs, ys, (i : Int), ())) _ _ hl (fun i x y hx hy => ?_) ?_ rfl
      · have hl := get_lt hx
        simp only [laws_eqNameS_l0, laws_eqNameS_l0K, dec_lt hx, cond_true, nnK_nat, getK_some hx, getK_some hy, eqName_ok, some_bind', wrapS (show i < 4611686018427387904 by omega)]
        by_cases e : x = y
        · simp [e]
        · have : decide (x = y) = false := decide_eq_false e
          simp [e, this]
      · simp only [laws_eqNameS_l0, laws_eqNameS_l0K, dec_nlt, cond_false]
    rw [e, cond_false, hq]
    by_cases h : xs = ys <;> simp [h, endK]
  · have e : ((xs.length : Int) != (ys.length : Int)) = true := by simp; omega
    rw [e, cond_true]
    have : ¬ xs = ys := fun e => hl (by rw [e])
    simp [this]




/-! ### texts -/

theorem ba_length (x : ByteArray) : x.data.toList.length = x.size := by simp only [Array.length_toList]; rfl

theorem getBK_some {γ : Type} {x : ByteArray} {i : Nat} {c : UInt8} (h : x.data.toList[i]? = some c) (K : UInt8 → Option γ) : getBK x i K = K c := by
  obtain ⟨hi, hc⟩ := List.getElem?_eq_some_iff.1 h
  have hi' : i < x.size := by rw [ba_length] at hi; exact hi
  have : x[i]? = some c := by
    rw [getElem?_pos x i hi']
    congr 1
  unfold getBK
  rw [this]

def ltB (a b : ByteArray) : Bool := decide (a.toList < b.toList)
theorem bytesLess_lt (x y : List UInt8) : Op.bytesLess x y = decide (x < y) := by
  induction x generalizing y with
  | nil => cases y <;> simp [Op.bytesLess]
  | cons a x ih =>
    cases y with
    | nil => simp [Op.bytesLess]
    | cons b y =>
      simp only [Op.bytesLess, ih, List.cons_lt_cons_iff]
      by_cases h : a < b
      · simp [h]
      · by_cases e : a = b
        · subst e; simp [h]
        · simp [h, e]

theorem ltB_ge (a b : ByteArray) : (decide (a.toList < b.toList) || (a.toList == b.toList)) = !ltB b a := by
  unfold ltB
  rw [Bool.eq_iff_iff]
  simp only [Bool.or_eq_true, decide_eq_true_eq, beq_iff_eq, Bool.not_eq_true', decide_eq_false_iff_not]
  rw [List.not_lt, List.le_iff_lt_or_eq]

theorem ltB_trans {a b c : ByteArray} (h : ltB a b = true) (k : ltB b c = true) : ltB a c = true := by
  simp only [ltB, decide_eq_true_eq] at *
  exact List.lt_trans h k

theorem ltB_irr (a : ByteArray) : ltB a a = false := by simp [ltB, List.lt_irrefl]

/-- the bytes of a text are in a range -/
def byteOk (c : UInt8) : Bool := !decide (((UInt8.toNat c : Nat) : Int) < 97) && !decide (((UInt8.toNat c : Nat) : Int) > 122)
def textV (b : ByteArray) : Bool := b.data.toList.all byteOk && rgt (b.size : Int) 1 12


theorem all_byte (l : List UInt8) : (l.zipIdx.all fun q => byteOk q.1) = l.all byteOk := by
  rw [Bool.eq_iff_iff, all_zip0 (p := fun _ => byteOk), List.all_eq_true]
  exact ⟨fun h x hx => by obtain ⟨i, hi⟩ := List.getElem?_of_mem hx; exact h i x hi, fun h i x hx => h x (List.mem_of_getElem? hx)⟩

theorem l22Text_ok (b : ByteArray) (h : b.size ≤ 9223372036854775807) : spec_l22Text b = some (textV b) := by
  unfold spec_l22Text spec_l22TextK textV
  have hb := ba_length b
  have : loopF spec_l22Text_l0 (b, 0, ()) = some _ := loop_list0 (nxt := spec_l22Text_l0) b.data.toList (fun i (_ : Unit) => (b, (i : Int), ())) (fun i x _ => bif byteOk x then .inl () else .inr (.inr (false, ()))) (fun _ => .inl (b, ())) ()
    (fun i x s hx => ?_) (fun s => ?_) rfl
  · rw [this, goL_all (fun _ => byteOk), all_byte]
    cases b.data.toList.all byteOk <;> simp [endK, l1In_ok, rgt]
  · have hl := get_lt hx
    rw [hb] at hl
    have hd : decide ((i : Int) < (b.size : Int)) = true := by simp; omega
    have hw : IntKind.wrap .i64 ((i : Int) + 1) = ((i + 1 : Nat) : Int) := by rw [wrap64 (by omega) (by omega)]; omega
    simp only [spec_l22Text_l0, spec_l22Text_l0K, hd, cond_true, nnK_nat, getBK_some hx, hw, goTo_if, goTo_l, goTo_r, byteOk]
    cases decide (((UInt8.toNat x : Nat) : Int) < 97) <;> cases decide (((UInt8.toNat x : Nat) : Int) > 122) <;> rfl
  · rw [hb]
    simp only [spec_l22Text_l0, spec_l22Text_l0K, dec_nlt, cond_false]

theorem may_ok (x : DName) (h : x.1.size ≤ 9223372036854775807) : impl_Name_may x = some (textV x.1 && rgt x.2.1 0 15) := by
  unfold impl_Name_may impl_Name_mayK textV
  have hb := ba_length x.1
  have em : (x.1, x.2.1, x.2.2.1, ()) = x := rfl
  have : loopF impl_Name_may_l0 (x, (x.1.size : Int), 0, ()) = some _ := loop_list0 (nxt := impl_Name_may_l0) x.1.data.toList (fun i (_ : Unit) => (x, (x.1.size : Int), (i : Int), ())) (fun i c _ => bif byteOk c then .inl () else .inr (.inr (false, ()))) (fun _ => .inl (x, ())) ()
    (fun i c s hx => ?_) (fun s => ?_) rfl
  · rw [em, this, goL_all (fun _ => byteOk), all_byte]
    cases x.1.data.toList.all byteOk with
    | false => simp [endK]
    | true =>
      simp only [cond_true, some_bind', endK, in_ok, impl_isThread, impl_isThreadK, rgt, Bool.true_and]
      cases (decide ((1 : Int) ≤ (x.1.size : Int)) && decide ((x.1.size : Int) ≤ 12)) <;> rfl
  · have hl := get_lt hx
    rw [hb] at hl
    have hd : decide ((i : Int) < (x.1.size : Int)) = true := by simp; omega
    have hw : IntKind.wrap .i64 ((i : Int) + 1) = ((i + 1 : Nat) : Int) := by rw [wrap64 (by omega) (by omega)]; omega
    simp only [impl_Name_may_l0, impl_Name_may_l0K, hd, cond_true, nnK_nat, getBK_some hx, hw, goTo_if, goTo_l, goTo_r, byteOk]
    cases decide (((UInt8.toNat c : Nat) : Int) < 97) <;> cases decide (((UInt8.toNat c : Nat) : Int) > 122) <;> rfl
  · rw [hb]
    simp only [impl_Name_may_l0, impl_Name_may_l0K, dec_nlt, cond_false]

def nN : DName := (ByteArray.mk #[], 0, 0, ())
def nOk (xs : List DName) (i : Nat) (x : DName) : Bool := textV x.1 && (rgt x.2.1 0 15 && (decide (i = 0) || ltB (xs.getD (i - 1) nN).1 x.1))
def namesV (xs : List DName) : Bool := xs.zipIdx.all (fun p => nOk xs p.2 p.1) && decide (xs.length ≤ 20)

/-- no text is longer than memory -/
def small (xs : List DName) : Prop := ∀ x ∈ xs, x.1.size ≤ 9223372036854775807

theorem nget_of {xs : List DName} {i : Nat} (h : i < xs.length) : xs[i]? = some (xs.getD i nN) := by simp [List.getD, h]

theorem impl_NamesValid_ok (xs : List DName) (h : xs.length ≤ 1048577) (hs : small xs) : impl_NamesValid xs = some (namesV xs) := by
  unfold impl_NamesValid impl_NamesValidK namesV
  have : loopF impl_NamesValid_l0 (xs, xs, (xs.length : Int), 0, ()) = some _ := loop_list0 (nxt := impl_NamesValid_l0) xs (fun i (_ : Unit) => (xs, xs, (xs.length : Int), (i : Int), ())) (fun i x _ => bif nOk xs i x then .inl () else .inr (.inr (false, ()))) (fun _ => .inl (xs, ())) ()
    (fun i x s hx => ?_) (fun s => ?_) rfl
  · rw [this, goL_all (fun i x => nOk xs i x)]
    cases (xs.zipIdx.all fun q => nOk xs q.2 q.1) with
    | false => simp [endK]
    | true => simp [endK]; omega
  · have hl := get_lt hx
    have em : (x.1, x.2.1, x.2.2.1, ()) = x := rfl
    simp only [impl_NamesValid_l0, impl_NamesValid_l0K, dec_lt hx, cond_true, nnK_nat, getK_some hx, some_bind', wrapS (show i < 4611686018427387904 by omega), goTo_if, goTo_l, goTo_r, em, may_ok x (hs x (List.mem_of_getElem? hx)), nOk, bytesLess_lt]
    have key : ∀ (K1 K2 : Option ((List DName × List DName × Int × Int × Unit) ⊕ ((List DName × Unit) ⊕ (Bool × Unit)))), (bif decide ((i : Int) > 0) then nnK (IntKind.wrap .i64 ((i : Int) - 1)) fun i10 => getK xs i10 fun v11 => bif (decide (x.1.toList < v11.1.toList) || (x.1.toList == v11.1.toList)) then K2 else K1 else K1) =
        bif (decide (i = 0) || ltB (xs.getD (i - 1) nN).1 x.1) then K1 else K2 := fun K1 K2 => by
      cases i with
      | zero => rfl
      | succ i =>
        have e1 : decide (((i + 1 : Nat) : Int) > 0) = true := by simp
        have e2 : IntKind.wrap .i64 (((i + 1 : Nat) : Int) - 1) = (i : Int) := by rw [wrap64 (by omega) (by omega)]; omega
        rw [e1, e2]
        simp only [cond_true, nnK_nat, getK_some (nget_of (show i < xs.length by omega)), Nat.add_sub_cancel, ltB_ge]
        have e3 : decide (i + 1 = 0) = false := by simp
        rw [e3, Bool.false_or]
        cases ltB (xs.getD i nN).1 x.1 <;> rfl
    rw [key]
    generalize (decide (i = 0) || ltB (xs.getD (i - 1) nN).1 x.1) = b3
    generalize textV x.1 = b1
    generalize rgt x.2.1 0 15 = b2
    cases b1 <;> cases b2 <;> cases b3 <;> rfl
  · simp only [impl_NamesValid_l0, impl_NamesValid_l0K, dec_nlt, cond_false]

theorem spec_NamesValid_ok (xs : List DName) (h : xs.length ≤ 1048577) (hs : small xs) : spec_NamesValid xs = some (namesV xs) := by
  unfold spec_NamesValid spec_NamesValidK namesV
  have : loopF spec_NamesValid_l0 (xs, 0, ()) = some _ := loop_list0 (nxt := spec_NamesValid_l0) xs (fun i (_ : Unit) => (xs, (i : Int), ())) (fun i x _ => bif nOk xs i x then .inl () else .inr (.inr (false, ()))) (fun _ => .inl (xs, ())) ()
    (fun i x s hx => ?_) (fun s => ?_) rfl
  · rw [this, goL_all (fun i x => nOk xs i x)]
    cases (xs.zipIdx.all fun q => nOk xs q.2 q.1) with
    | false => simp [endK]
    | true => simp [endK]; omega
  · have hl := get_lt hx
    simp only [spec_NamesValid_l0, spec_NamesValid_l0K, dec_lt hx, cond_true, nnK_nat, getK_some hx, some_bind', wrapS (show i < 4611686018427387904 by omega), goTo_if, goTo_l, goTo_r, l22Text_ok x.1 (hs x (List.mem_of_getElem? hx)), nOk, bytesLess_lt, l1In_ok]
    have key : ∀ (K1 K2 : Option ((List DName × Int × Unit) ⊕ ((List DName × Unit) ⊕ (Bool × Unit)))), (bif decide ((i : Int) > 0) then nnK (IntKind.wrap .i64 ((i : Int) - 1)) fun i10 => getK xs i10 fun v11 => bif (!(!decide (v11.1.toList < x.1.toList))) then K1 else K2 else K1) =
        bif (decide (i = 0) || ltB (xs.getD (i - 1) nN).1 x.1) then K1 else K2 := fun K1 K2 => by
      cases i with
      | zero => rfl
      | succ i =>
        have e1 : decide (((i + 1 : Nat) : Int) > 0) = true := by simp
        have e2 : IntKind.wrap .i64 (((i + 1 : Nat) : Int) - 1) = (i : Int) := by rw [wrap64 (by omega) (by omega)]; omega
        rw [e1, e2]
        simp only [cond_true, nnK_nat, getK_some (nget_of (show i < xs.length by omega)), Nat.add_sub_cancel, Bool.not_not]
        have e3 : decide (i + 1 = 0) = false := by simp
        rw [e3, Bool.false_or]
        rfl
    rw [key]
    generalize (decide (i = 0) || ltB (xs.getD (i - 1) nN).1 x.1) = b3
    generalize textV x.1 = b1
    simp only [rgt]
    generalize (decide (0 ≤ x.2.1) && decide (x.2.1 ≤ 15)) = b2
    cases b1 <;> cases b2 <;> cases b3 <;> rfl
  · simp only [spec_NamesValid_l0, spec_NamesValid_l0K, dec_nlt, cond_false]


/-! ### finding -/

/-- the first name that is not below a text -/
def ixN (xs : List DName) (t : ByteArray) : Nat := xs.findIdx fun x => !ltB x.1 t

theorem sorted {xs : List DName} (hv : namesV xs = true) : ∀ {j i : Nat} (hi : i < xs.length) (hji : j < i), ltB xs[j].1 xs[i].1 = true := by
  simp only [namesV, Bool.and_eq_true] at hv
  have step : ∀ i (h : i + 1 < xs.length), ltB xs[i].1 xs[i+1].1 = true := fun i h => by
    have h1 := all_zip0.1 hv.1 (i + 1) xs[i+1] (List.getElem?_eq_getElem h)
    simp only [nOk, Bool.and_eq_true, Bool.or_eq_true, decide_eq_true_eq, Nat.add_sub_cancel] at h1
    have h2 := h1.2.2
    rcases h2 with h2 | h2
    · omega
    · have : xs.getD i nN = xs[i] := by simp [List.getD, show i < xs.length by omega]
      rwa [this] at h2
  intro j i hi hji
  induction i with
  | zero => omega
  | succ i ih =>
    rcases Nat.lt_or_ge j i with h | h
    · exact ltB_trans (ih (by omega) h) (step i hi)
    · obtain rfl : j = i := by omega
      exact step j hi

theorem ixN_below {xs : List DName} {t : ByteArray} {i : Nat} (h : i < ixN xs t) (hi : i < xs.length) : ltB xs[i].1 t = true := by
  have := List.not_of_lt_findIdx (p := fun x : DName => !ltB x.1 t) h
  simpa using this

theorem ixN_above {xs : List DName} {t : ByteArray} (hv : namesV xs = true) {i : Nat} (hi : i < xs.length) (h : ixN xs t ≤ i) : ltB xs[i].1 t = false := by
  have hlt : ixN xs t < xs.length := by omega
  have h1 : ltB xs[ixN xs t].1 t = false := by
    have := List.findIdx_getElem (p := fun x : DName => !ltB x.1 t) (w := hlt)
    rw [Bool.not_eq_true'] at this
    exact this
  rcases Nat.lt_or_ge (ixN xs t) i with h2 | h2
  · cases h3 : ltB xs[i].1 t with
    | false => rfl
    | true => rw [ltB_trans (sorted hv hi h2) h3] at h1; cases h1
  · obtain rfl : ixN xs t = i := by omega
    exact h1

def cmpB (a b : ByteArray) : Int := bif ltB a b then -1 else bif (a.toList == b.toList) then 0 else 1

theorem find_c1_ok (x : DName) (t : ByteArray) : impl_find_c1 x t = some (cmpB x.1 t) := by
  unfold impl_find_c1 impl_find_c1K cmp_Compare_string cmp_Compare_stringK cmp_isNaN_string cmp_isNaN_stringK cmpB
  simp only [some_bind', beq_self_eq_true, Bool.not_true, cond_false, bytesLess_lt, ltB]
  cases decide (x.1.toList < t.toList) <;> cases (x.1.toList == t.toList) <;> rfl

theorem half {i j : Nat} (h : i + j < 4611686018427387904) : IntKind.wrap .i64 (Int.fdiv (IntKind.wrap .u64 (IntKind.wrap .i64 ((i : Int) + (j : Int)))) (2 ^ (min ((1 : Int)).toNat 64))) = (((i + j) / 2 : Nat) : Int) := by
  have e1 : IntKind.wrap .i64 ((i : Int) + (j : Int)) = ((i + j : Nat) : Int) := by rw [wrap64 (by omega) (by omega)]; omega
  have e2 : IntKind.wrap .u64 (((i + j : Nat) : Int)) = ((i + j : Nat) : Int) := by
    simp [IntKind.wrap, IntKind.bits, IntKind.signed]
    omega
  rw [e1, e2]
  have e3 : (2 ^ (min ((1 : Int)).toNat 64) : Int) = 2 := by decide
  rw [e3, Int.fdiv_eq_ediv_of_nonneg _ (by omega), wrap64 (by omega) (by omega)]
  omega

theorem search_loop (xs : List DName) (t : ByteArray) (hv : namesV xs = true) (h : xs.length ≤ 1048577) : ∀ (f i j : Nat), j - i ≤ f → i ≤ ixN xs t → ixN xs t ≤ j → j ≤ xs.length →
    loopF slices_BinarySearchFunc_string_l0 (xs, t, (xs.length : Int), (i : Int), (j : Int), ()) = some (xs, t, (xs.length : Int), (ixN xs t : Int), ()) := by
  intro f
  induction f with
  | zero =>
    intro i j hf h1 h2 h3
    obtain rfl : i = ixN xs t := by omega
    apply loopF_inr
    have : ¬ ((ixN xs t : Int) < (j : Int)) := by omega
    simp [slices_BinarySearchFunc_string_l0, slices_BinarySearchFunc_string_l0K, this]
  | succ f ih =>
    intro i j hf h1 h2 h3
    by_cases hij : i < j
    · have hd : decide ((i : Int) < (j : Int)) = true := by simp; omega
      have hm : (i + j) / 2 < xs.length := by omega
      have hx : xs[(i + j) / 2]? = some xs[(i + j) / 2] := List.getElem?_eq_getElem hm
      cases hc : ltB xs[(i + j) / 2].1 t with
      | true =>
        have hlt : (i + j) / 2 < ixN xs t := by
          rcases Nat.lt_or_ge ((i + j) / 2) (ixN xs t) with q | q
          · exact q
          · rw [ixN_above hv hm q] at hc; cases hc
        have hs : slices_BinarySearchFunc_string_l0 (xs, t, (xs.length : Int), (i : Int), (j : Int), ()) = some (.inl (xs, t, (xs.length : Int), (((i + j) / 2 + 1 : Nat) : Int), (j : Int), ())) := by
          simp only [slices_BinarySearchFunc_string_l0, slices_BinarySearchFunc_string_l0K, hd, cond_true, half (show i + j < 4611686018427387904 by omega), nnK_nat, getK_some hx, find_c1_ok, some_bind', cmpB, hc, wrapS (show (i + j) / 2 < 4611686018427387904 by omega)]
          rfl
        rw [loopF_inl hs]
        exact ih _ _ (by omega) (by omega) h2 h3
      | false =>
        have hge : ixN xs t ≤ (i + j) / 2 := by
          rcases Nat.lt_or_ge ((i + j) / 2) (ixN xs t) with q | q
          · rw [ixN_below q hm] at hc; cases hc
          · exact q
        have hs : slices_BinarySearchFunc_string_l0 (xs, t, (xs.length : Int), (i : Int), (j : Int), ()) = some (.inl (xs, t, (xs.length : Int), (i : Int), (((i + j) / 2 : Nat) : Int), ())) := by
          simp only [slices_BinarySearchFunc_string_l0, slices_BinarySearchFunc_string_l0K, hd, cond_true, half (show i + j < 4611686018427387904 by omega), nnK_nat, getK_some hx, find_c1_ok, some_bind', cmpB, hc, cond_false]
          cases (xs[(i + j) / 2].1.toList == t.toList) <;> rfl
        rw [loopF_inl hs]
        exact ih _ _ (by omega) h1 hge (by omega)
    · exact ih i j (by omega) h1 h2 h3

/-- is the text there? -/
def atN (xs : List DName) (t : ByteArray) : Bool := match xs[ixN xs t]? with | some x => x.1.toList == t.toList | none => false

theorem impl_find_ok (xs : List DName) (t : ByteArray) (hv : namesV xs = true) (h : xs.length ≤ 1048577) : impl_find xs t = some ((ixN xs t : Int), atN xs t) := by
  unfold impl_find impl_findK slices_BinarySearchFunc_string slices_BinarySearchFunc_stringK
  have hle : ixN xs t ≤ xs.length := List.findIdx_le_length
  rw [show ((xs, t, (xs.length : Int), (0 : Int), (xs.length : Int), ()) : List DName × ByteArray × Int × Int × Int × Unit) = (xs, t, (xs.length : Int), ((0 : Nat) : Int), (xs.length : Int), ()) from rfl, search_loop xs t hv h xs.length 0 xs.length (by omega) (by omega) hle (Nat.le_refl _)]
  simp only [some_bind', atN]
  by_cases hlt : ixN xs t < xs.length
  · have hd : decide ((ixN xs t : Int) < (xs.length : Int)) = true := by simp; omega
    have hx : xs[ixN xs t]? = some xs[ixN xs t] := List.getElem?_eq_getElem hlt
    simp only [hd, cond_true, nnK_nat, getK_some hx, find_c1_ok, some_bind', hx]
    have hb := ixN_above (t := t) hv hlt (Nat.le_refl _)
    simp only [cmpB, hb, cond_false]
    cases (xs[ixN xs t].1.toList == t.toList) <;> rfl
  · have hd : decide ((ixN xs t : Int) < (xs.length : Int)) = false := by simp; omega
    have hx : xs[ixN xs t]? = none := List.getElem?_eq_none (by omega)
    simp only [hd, cond_false, some_bind', hx]

def findN (xs : List DName) (t : ByteArray) : Int × Bool :=
  bif namesV xs && atN xs t then ((xs.getD (ixN xs t) nN).2.2.1, true) else (0, false)

theorem impl_FindName_ok (xs : List DName) (t : ByteArray) (h : xs.length ≤ 1048577) (hs : small xs) : impl_FindName xs t = some (findN xs t) := by
  unfold impl_FindName impl_FindNameK findN
  rw [impl_NamesValid_ok xs h hs]
  cases hv : namesV xs with
  | false => rfl
  | true =>
    simp only [some_bind', Bool.not_true, cond_false, impl_find_ok xs t hv h, Bool.true_and]
    cases ha : atN xs t with
    | false => rfl
    | true =>
      have hlt : ixN xs t < xs.length := by
        unfold atN at ha
        split at ha
        · rename_i x hx; exact get_lt hx
        · cases ha
      simp only [Bool.not_true, cond_false, nnK_nat, getK_some (nget_of hlt), cond_true]

theorem toList_eq {a b : ByteArray} : (a.toList == b.toList) = true ↔ a = b := by rw [beqS]; simp

theorem atN_iff {xs : List DName} {t : ByteArray} (hv : namesV xs = true) {i : Nat} {x : DName} (hx : xs[i]? = some x) : x.1 = t ↔ (atN xs t = true ∧ ixN xs t = i) := by
  have hl := get_lt hx
  have hxi : xs[i] = x := (List.getElem?_eq_some_iff.1 hx).2
  constructor
  · rintro rfl
    have he : ixN xs x.1 = i := by
      rcases Nat.lt_trichotomy (ixN xs x.1) i with q | q | q
      · have h1 := ixN_above (t := x.1) hv (show ixN xs x.1 < xs.length by omega) (Nat.le_refl _)
        have h2 := sorted hv hl q
        rw [hxi] at h2
        rw [h2] at h1; cases h1
      · exact q
      · have := ixN_below q hl
        rw [hxi, ltB_irr] at this; cases this
    refine ⟨?_, he⟩
    unfold atN
    rw [he, hx]
    exact toList_eq.2 rfl
  · rintro ⟨h1, h2⟩
    unfold atN at h1
    rw [h2, hx] at h1
    exact toList_eq.1 h1

theorem spec_FindName_ok (xs : List DName) (t : ByteArray) (h : xs.length ≤ 1048577) (hs : small xs) : spec_FindName xs t = some (findN xs t) := by
  unfold spec_FindName spec_FindNameK findN
  have := loop_list0 (nxt := spec_FindName_l0) xs (fun i (_ : Unit) => (xs, t, (i : Int), ())) (fun i x _ => bif namesV xs then (bif (x.1.toList == t.toList) then .inr (.inr (x.2.2.1, true, ())) else .inl ()) else .inr (.inl ())) (fun _ => .inl ()) ()
    (fun i x s hx => ?_) (fun s => ?_) (st := (xs, t, 0, ())) rfl
  · rw [this]
    cases hv : namesV xs with
    | false =>
      cases xs with
      | nil => exact absurd hv (by decide)
      | cons x r => simp [goL, endK]
    | true =>
      simp only [cond_true, Bool.true_and]
      have key : ∀ (r : List DName) (i : Nat), xs.drop i = r → (∀ j x, xs[j]? = some x → j < i → x.1 ≠ t) →
          goL (fun i (x : DName) (_ : Unit) => bif (x.1.toList == t.toList) then (.inr (.inr (x.2.2.1, true, ())) : Unit ⊕ (Unit ⊕ (Int × Bool × Unit))) else .inl ()) (fun _ => .inl ()) r i () =
            bif atN xs t then .inr ((xs.getD (ixN xs t) nN).2.2.1, true, ()) else .inl () := by
        intro r
        induction r with
        | nil =>
          intro i hd hn
          have hl : xs.length ≤ i := by have := congrArg List.length hd; simp at this; omega
          have : atN xs t = false := by
            cases ha : atN xs t with
            | false => rfl
            | true =>
              have hlt : ixN xs t < xs.length := by
                unfold atN at ha
                split at ha
                · rename_i x hx; exact get_lt hx
                · cases ha
              exact absurd ((atN_iff hv (List.getElem?_eq_getElem hlt)).2 ⟨ha, rfl⟩) (hn _ _ (List.getElem?_eq_getElem hlt) (by omega))
          rw [this]
          rfl
        | cons x r ih =>
          intro i hd hn
          obtain ⟨hx, hr⟩ := drop_get hd
          simp only [goL]
          cases hb : (x.1.toList == t.toList) with
          | true =>
            obtain ⟨h1, h2⟩ := (atN_iff hv hx).1 (toList_eq.1 hb)
            rw [h1, h2]
            have : xs.getD i nN = x := by simp [List.getD, hx]
            rw [this]
            rfl
          | false =>
            simp only [cond_false]
            refine ih (i + 1) hr fun j y hy hj => ?_
            by_cases e : j = i
            · subst e
              rw [hx] at hy
              obtain rfl := Option.some.inj hy
              exact fun q => by rw [toList_eq.2 q] at hb; cases hb
            · exact hn j y hy (by omega)
      rw [key xs 0 (by simp) (fun j x _ hj => by omega)]
      cases atN xs t <;> rfl
  · have hl := get_lt hx
    simp only [spec_FindName_l0, spec_FindName_l0K, dec_lt hx, cond_true, nnK_nat, getK_some hx, some_bind', wrapS (show i < 4611686018427387904 by omega), goTo_if, goTo_l, goTo_r, spec_NamesValid_ok xs h hs]
    cases namesV xs <;> cases (x.1.toList == t.toList) <;> rfl
  · simp only [spec_FindName_l0, spec_FindName_l0K, dec_nlt, cond_false]

/-! ### sizes -/

theorem szNameS_ok (xs : List DName) (h : xs.length ≤ 9223372036854775807) (hs : small xs) : ∃ r, laws_szNameS xs 1048576 = some r ∧ (0 ≤ r → xs.length ≤ 1048576) := by
  unfold laws_szNameS laws_szNameSK
  rw [wrap64 (n := 1048576 - (xs.length : Int)) (by omega) (by omega)]
  by_cases e : xs.length ≤ 1048576
  · have h0 : ¬ (1048576 - (xs.length : Int) < 0) := by omega
    simp only [h0, decide_false, cond_false]
    have := loop_list1 (nxt := laws_szNameS_l0) xs (fun i s => (xs, s, (i : Int), ())) (fun _ x s => bif decide (s - (x.1.size : Int) < 0) then .inr (.inr (-1, ())) else .inl (s - (x.1.size : Int))) (fun s => .inl (s, ())) (fun i s => 0 ≤ s ∧ s ≤ 1048576) (1048576 - (xs.length : Int))
      (fun i x s hs' hx => ?_) (fun i x s s' hs' hx e => ?_) (fun s _ => ?_) (by omega) (st := (xs, 1048576 - (xs.length : Int), 0, ())) rfl
    · rw [this]
      simp only [some_bind']
      rcases goL (fun _ (x : DName) (s : Int) => bif decide (s - (x.1.size : Int) < 0) then (.inr (.inr (-1, ())) : Int ⊕ ((Int × Unit) ⊕ (Int × Unit))) else .inl (s - (x.1.size : Int))) (fun s => .inl (s, ())) xs 0 (1048576 - (xs.length : Int)) with z | z
      · exact ⟨z.1, rfl, fun _ => e⟩
      · exact ⟨z.1, rfl, fun _ => e⟩
    · have hl := get_lt hx
      have hb := hs x (List.mem_of_getElem? hx)
      simp only [laws_szNameS_l0, laws_szNameS_l0K, dec_lt hx, cond_true, nnK_nat, getK_some hx, laws_szName, laws_szNameK, wrapS (show i < 4611686018427387904 by omega), goTo_if, goTo_l, goTo_r]
      rw [wrap64 (n := s - (x.1.size : Int)) (by omega) (by omega)]
      by_cases q : s - (x.1.size : Int) < 0
      · simp [q]
      · simp [q]
    · by_cases q : s - (x.1.size : Int) < 0
      · simp [q] at e
      · simp [q] at e
        omega
    · simp only [laws_szNameS_l0, laws_szNameS_l0K, dec_nlt, cond_false]
  · have h0 : (1048576 - (xs.length : Int) < 0) := by omega
    exact ⟨-1, by simp [h0], fun h => by omega⟩

theorem FnExactFindName_law (xs : List DName) (t : ByteArray) (h : WfD (.cons (.sl tName) (.cons .str .nil)) (xs, t, ())) : laws_FnExactFindName xs t = some true := by
  have hl : xs.length ≤ 9223372036854775807 := by have := h.1.1; simp only [maxLen] at this; omega
  have hs : small xs := fun x hx => by have := (h.1.2 x hx).1; simp only [WfD, maxLen] at this; omega
  unfold laws_FnExactFindName laws_FnExactFindNameK
  obtain ⟨r, hr, hr2⟩ := szNameS_ok xs hl hs
  rw [hr]
  by_cases ht : ((t.size : Int) > 1048576)
  · simp [ht]
  · by_cases h0 : r < 0
    · simp [ht, h0]
    · have hb := hr2 (by omega)
      simp [ht, h0, toNameS_ok xs (by omega), impl_FindName_ok xs t (by omega) hs, spec_FindName_ok xs t (by omega) hs, eqNameS_ok xs xs (by omega)]

end Go.Ev
