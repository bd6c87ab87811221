/-
  Quotas: what the functions of the program compute, in plain Lean.
-/
import Derived.Test.YtbedpooicdikjaaWalk
import Derived.Test.YtbedpooicdikjaaEv4
import Derived.Test.YtbedpooicdikjaaLawBoil
namespace Go.Ev
set_option linter.unusedVariables false
set_option linter.unusedSimpArgs false
set_option maxRecDepth 100000
/-- in a range -/
theorem in_ok (n lo hi : Int) : impl_in n lo hi = some (decide (lo ≤ n) && decide (n ≤ hi)) := by
  unfold impl_in impl_inK
  by_cases h : n ≥ lo
  · have h' : lo ≤ n := h
    simp [h, h']
  · have h' : ¬ lo ≤ n := h
    simp [h, h']

theorem l1In_ok (n lo hi : Int) : spec_l1In n lo hi = some (decide (lo ≤ n) && decide (n ≤ hi)) := by
  unfold spec_l1In spec_l1InK
  by_cases h : n ≥ lo
  · have h' : lo ≤ n := h
    simp [h, h']
  · have h' : ¬ lo ≤ n := h
    simp [h, h']

def qg (i : Nat) (q : DQuota) : Bool :=
  (decide (-1 ≤ q.1) && decide (q.1 ≤ (i : Int) - 1)) && ((decide (0 ≤ q.2.1) && decide (q.2.1 ≤ 10000)) && (decide (0 ≤ q.2.2.1) && decide (q.2.2.1 ≤ q.2.1)))

def partsOf : List DQuota → Int → Int
  | [], _ => 0
  | q :: r, n => (if q.1 = n then q.2.2.1 else 0) + partsOf r n

def qok (xs : List DQuota) : Bool := xs.zipIdx.all (fun p => qg p.2 p.1)
def validQ (xs : List DQuota) : Bool := qok xs && (xs.zipIdx.all (fun p => decide (partsOf xs (p.2 : Int) ≤ p.1.2.2.1)) && decide (xs.length ≤ 16))

theorem qok_get {xs : List DQuota} (h : qok xs = true) {i : Nat} {q : DQuota} (hq : xs[i]? = some q) : -1 ≤ q.1 ∧ q.1 ≤ (i : Int) - 1 ∧ 0 ≤ q.2.1 ∧ q.2.1 ≤ 10000 ∧ 0 ≤ q.2.2.1 ∧ q.2.2.1 ≤ q.2.1 := by
  have := all_zip0.mp h i q hq
  simp only [qg, Bool.and_eq_true, decide_eq_true_eq] at this
  omega

theorem qok_mem {xs : List DQuota} (h : qok xs = true) : ∀ q ∈ xs, 0 ≤ q.2.2.1 ∧ q.2.2.1 ≤ 10000 := fun q hq => by
  obtain ⟨i, hi⟩ := List.getElem?_of_mem hq
  have := qok_get h hi
  omega

theorem wrapP (i : Nat) (h : i < 4611686018427387904) : IntKind.wrap .i64 ((i : Int) - 1) = (i : Int) - 1 := wrap64 (by omega) (by omega)

theorem impl_l0_ok (xs : List DQuota) (h : xs.length ≤ 1048577) : loopF impl_QuotasValid_l0 (xs, xs, (xs.length : Int), 0, ()) = some (bif qok xs then .inl (xs, ()) else .inr (false, ())) := by
  have := loop_list0 (nxt := impl_QuotasValid_l0) xs (fun i (_ : Unit) => (xs, xs, (xs.length : Int), (i : Int), ())) (fun i x _ => bif qg i x then .inl () else .inr (.inr (false, ()))) (fun _ => .inl (xs, ())) ()
    (fun i x s hx => ?_) (fun s => ?_) (st := (xs, xs, (xs.length : Int), 0, ())) rfl
  · rw [this, goL_all]; rfl
  · have hl := get_lt hx
    simp only [impl_QuotasValid_l0, impl_QuotasValid_l0K, dec_lt hx, cond_true, nnK_nat, getK_some hx, in_ok, some_bind', wrapP i (by omega), wrapS (show i < 4611686018427387904 by omega), qg, goTo_if, goTo_l, goTo_r]
    generalize (decide (-1 ≤ x.1) && decide (x.1 ≤ (i : Int) - 1)) = b1
    generalize (decide (0 ≤ x.2.1) && decide (x.2.1 ≤ 10000)) = b2
    generalize (decide (0 ≤ x.2.2.1) && decide (x.2.2.1 ≤ x.2.1)) = b3
    cases b1 <;> cases b2 <;> cases b3 <;> rfl
  · simp only [impl_QuotasValid_l0, impl_QuotasValid_l0K, dec_nlt, cond_false]

theorem parts_bound : ∀ (xs : List DQuota) (n : Int), (∀ q ∈ xs, 0 ≤ q.2.2.1 ∧ q.2.2.1 ≤ 10000) → 0 ≤ partsOf xs n ∧ partsOf xs n ≤ 10000 * xs.length
  | [], _, _ => by simp [partsOf]
  | q :: r, n, h => by
    have h1 := h q List.mem_cons_self
    have h2 := parts_bound r n fun q hq => h q (List.mem_cons_of_mem _ hq)
    simp only [partsOf, List.length_cons]
    split <;> omega

theorem parts_fold (n : Int) : ∀ (r : List DQuota) (s : Int), r.foldl (fun s q => if q.1 = n then s + q.2.2.1 else s) s = s + partsOf r n
  | [], s => by simp [partsOf]
  | q :: r, s => by
    simp only [List.foldl_cons, partsOf]
    rw [parts_fold n r]
    split <;> omega

theorem parts_ok (xs : List DQuota) (n : Int) (h : xs.length ≤ 1048577) (hg : ∀ q ∈ xs, 0 ≤ q.2.2.1 ∧ q.2.2.1 ≤ 10000) : impl_parts xs n = some (partsOf xs n) := by
  have : loopF impl_parts_l0 (n, 0, xs, (xs.length : Int), 0, ()) = some (partsOf xs n, ()) := by
    have := loop_list1 (nxt := impl_parts_l0) xs (fun i s => (n, s, xs, (xs.length : Int), (i : Int), ())) (fun _ q s => .inl (if q.1 = n then s + q.2.2.1 else s)) (fun s => (s, ())) (fun i s => 0 ≤ s ∧ s ≤ 10000 * (i : Int)) 0
      (fun i x s hs hx => ?_) (fun i x s s' hs hx e => ?_) (fun s _ => ?_) (by decide) (st := (n, 0, xs, (xs.length : Int), 0, ())) rfl
    · rw [this, goL_fold (fun s (q : DQuota) => if q.1 = n then s + q.2.2.1 else s), parts_fold]
      simp
    · have hl := get_lt hx
      have hb := hg x (List.mem_of_getElem? hx)
      simp only [impl_parts_l0, impl_parts_l0K, dec_lt hx, cond_true, nnK_nat, getK_some hx, wrapS (show i < 4611686018427387904 by omega), goTo_l]
      by_cases e : x.1 = n
      · simp only [e, beq_self_eq_true, cond_true, if_true]
        rw [wrap64 (n := s + x.2.2.1) (by omega) (by omega)]
      · have : (x.1 == n) = false := by simpa using e
        simp only [this, cond_false, e, if_false]
    · have hb := hg x (List.mem_of_getElem? hx)
      cases e
      push_cast
      split <;> omega
    · simp only [impl_parts_l0, impl_parts_l0K, dec_nlt, cond_false]
  unfold impl_parts impl_partsK
  rw [this]
  rfl

theorem impl_l2_ok (xs : List DQuota) (h : xs.length ≤ 1048577) (hg : ∀ q ∈ xs, 0 ≤ q.2.2.1 ∧ q.2.2.1 ≤ 10000) : loopF impl_QuotasValid_l2 (xs, xs, (xs.length : Int), 0, ()) =
    some (bif xs.zipIdx.all (fun p => decide (partsOf xs (p.2 : Int) ≤ p.1.2.2.1)) then .inl (xs, ()) else .inr (false, ())) := by
  have := loop_list0 (nxt := impl_QuotasValid_l2) xs (fun i (_ : Unit) => (xs, xs, (xs.length : Int), (i : Int), ())) (fun i x _ => bif decide (partsOf xs (i : Int) ≤ x.2.2.1) then .inl () else .inr (.inr (false, ()))) (fun _ => .inl (xs, ())) ()
    (fun i x s hx => ?_) (fun s => ?_) (st := (xs, xs, (xs.length : Int), 0, ())) rfl
  · rw [this, goL_all (fun i (x : DQuota) => decide (partsOf xs (i : Int) ≤ x.2.2.1))]
  · have hl := get_lt hx
    simp only [impl_QuotasValid_l2, impl_QuotasValid_l2K, dec_lt hx, cond_true, nnK_nat, getK_some hx, parts_ok xs _ h hg, some_bind', wrapS (show i < 4611686018427387904 by omega), goTo_if, goTo_l, goTo_r]
    by_cases e : partsOf xs (i : Int) ≤ x.2.2.1
    · have : ¬ partsOf xs (i : Int) > x.2.2.1 := by omega
      simp [e, this]
    · have : partsOf xs (i : Int) > x.2.2.1 := by omega
      simp [e, this]
  · simp only [impl_QuotasValid_l2, impl_QuotasValid_l2K, dec_nlt, cond_false]

theorem impl_QuotasValid_ok (xs : List DQuota) (h : xs.length ≤ 1048577) : impl_QuotasValid xs = some (validQ xs) := by
  unfold impl_QuotasValid impl_QuotasValidK validQ
  rw [impl_l0_ok xs h]
  cases hq : qok xs with
  | false => simp [endK]
  | true =>
    simp only [cond_true, some_bind', endK]
    rw [impl_l2_ok xs h (qok_mem hq)]
    cases hp : xs.zipIdx.all (fun p => decide (partsOf xs (p.2 : Int) ≤ p.1.2.2.1)) with
    | false => simp
    | true =>
      simp only [cond_true, some_bind', Bool.true_and]
      congr 2
      simp; omega

/-- the sums of the parts, quota by quota -/
def addQ (b : List Int) (q : DQuota) : List Int := if 0 ≤ q.1 then b.set q.1.toNat (b.getD q.1.toNat 0 + q.2.2.1) else b

theorem addQ_length (b : List Int) (q : DQuota) : (addQ b q).length = b.length := by unfold addQ; split <;> simp

theorem addQ_get (b : List Int) (q : DQuota) (j : Nat) (hj : j < b.length) : (addQ b q)[j]? = some (b[j] + (if q.1 = (j : Int) then q.2.2.1 else 0)) := by
  unfold addQ
  split
  · by_cases e : q.1.toNat = j
    · subst e
      have : q.1 = (q.1.toNat : Int) := by omega
      rw [List.getElem?_set_self hj, if_pos this]
      simp [List.getD, hj]
    · rw [List.getElem?_set_ne e, if_neg (by omega), List.getElem?_eq_getElem hj]
      simp
  · rw [if_neg (by omega), List.getElem?_eq_getElem hj]
    simp

theorem fold_addQ : ∀ (r : List DQuota) (b : List Int), (r.foldl addQ b).length = b.length ∧ ∀ j (hj : j < b.length), (r.foldl addQ b)[j]? = some (b[j] + partsOf r (j : Int))
  | [], b => ⟨rfl, fun j hj => by simp [partsOf, hj]⟩
  | q :: r, b => by
    obtain ⟨h1, h2⟩ := fold_addQ r (addQ b q)
    rw [addQ_length] at h1
    refine ⟨h1, fun j hj => ?_⟩
    simp only [List.foldl_cons]
    rw [h2 j (by rw [addQ_length]; exact hj)]
    have := addQ_get b q j hj
    rw [List.getElem?_eq_getElem (by rw [addQ_length]; exact hj)] at this
    rw [Option.some.inj this, partsOf]
    congr 1
    omega

theorem spec_l0_ok (xs : List DQuota) (h : xs.length ≤ 1048577) : loopF spec_QuotasValid_l0 (xs, 0, List.replicate xs.length 0, ()) =
    some (bif qok xs then .inl (xs, xs.foldl addQ (List.replicate xs.length 0), ()) else .inr (false, ())) := by
  have := loop_list1 (nxt := spec_QuotasValid_l0) xs (fun i b => (xs, (i : Int), b, ())) (fun i x b => bif qg i x then .inl (addQ b x) else .inr (.inr (false, ()))) (fun b => .inl (xs, b, ())) (fun i b => b.length = xs.length ∧ ∀ v ∈ b, 0 ≤ v ∧ v ≤ 10000 * (i : Int)) (List.replicate xs.length 0)
    (fun i x b hb hx => ?_) (fun i x b b' hb hx e => ?_) (fun b _ => ?_) ⟨by simp, fun v hv => by simp [List.mem_replicate] at hv; omega⟩ (st := (xs, 0, List.replicate xs.length 0, ())) rfl
  · rw [this, goL_allst qg addQ]; rfl
  · have hl := get_lt hx
    simp only [spec_QuotasValid_l0, spec_QuotasValid_l0K, dec_lt hx, cond_true, nnK_nat, getK_some hx, l1In_ok, some_bind', wrapP i (by omega), wrapS (show i < 4611686018427387904 by omega), goTo_if, goTo_l, goTo_r]
    by_cases hq : qg i x = true
    · have hq' := hq
      simp only [qg, Bool.and_eq_true, decide_eq_true_eq] at hq'
      obtain ⟨⟨g1, g2⟩, ⟨g3, g4⟩, g5, g6⟩ := hq'
      simp only [hq, cond_true, g1, g2, g3, g4, g5, g6, decide_true, Bool.and_true, Bool.not_true, Bool.not_false, cond_true, cond_false]
      by_cases hp : 0 ≤ x.1
      · have hlt : x.1.toNat < b.length := by rw [hb.1]; omega
        have hv := hb.2 b[x.1.toNat] (List.getElem_mem hlt)
        simp only [ge_iff_le, hp, decide_true, cond_true, nnK_pos hp, chk_pos hlt, getK_lt hlt]
        rw [wrap64 (n := b[x.1.toNat] + x.2.2.1) (by omega) (by omega)]
        simp [addQ, hp, List.getD, hlt]
      · simp [addQ, hp]
    · have hq0 : qg i x = false := by simpa using hq
      simp only [hq0, cond_false]
      simp only [qg] at hq0
      revert hq0
      generalize (decide (-1 ≤ x.1) && decide (x.1 ≤ (i : Int) - 1)) = b1
      generalize (decide (0 ≤ x.2.1) && decide (x.2.1 ≤ 10000)) = b2
      generalize (decide (0 ≤ x.2.2.1) && decide (x.2.2.1 ≤ x.2.1)) = b3
      intro hq0
      cases b1 <;> cases b2 <;> cases b3 <;> first | rfl | (simp at hq0)
  · cases hq : qg i x with
    | true =>
      rw [hq] at e
      simp only [cond_true] at e
      simp only [Sum.inl.injEq] at e
      subst e
      simp only [qg, Bool.and_eq_true, decide_eq_true_eq] at hq
      refine ⟨by rw [addQ_length]; exact hb.1, fun v hv => ?_⟩
      unfold addQ at hv
      split at hv
      · rcases List.mem_or_eq_of_mem_set hv with hv | hv
        · have := hb.2 v hv; omega
        · subst hv
          have hlt : x.1.toNat < b.length := by rw [hb.1]; have := get_lt hx; omega
          have hv := hb.2 b[x.1.toNat] (List.getElem_mem hlt)
          simp only [List.getD, List.getElem?_eq_getElem hlt, Option.getD_some]
          omega
      · have := hb.2 v hv; omega
    | false => rw [hq] at e; cases e
  · simp only [spec_QuotasValid_l0, spec_QuotasValid_l0K, dec_nlt, cond_false]

theorem spec_l2_ok (xs : List DQuota) (h : xs.length ≤ 1048577) : loopF spec_QuotasValid_l2 (xs, 0, xs.foldl addQ (List.replicate xs.length 0), ()) =
    some (bif xs.zipIdx.all (fun p => decide (partsOf xs (p.2 : Int) ≤ p.1.2.2.1)) then .inl (xs, ()) else .inr (false, ())) := by
  obtain ⟨f1, f2⟩ := fold_addQ xs (List.replicate xs.length 0)
  simp only [List.length_replicate, List.getElem_replicate, Int.zero_add] at f1 f2
  generalize xs.foldl addQ (List.replicate xs.length 0) = b at f1 f2 ⊢
  have := loop_list0 (nxt := spec_QuotasValid_l2) xs (fun i (_ : Unit) => (xs, (i : Int), b, ())) (fun i x _ => bif decide (partsOf xs (i : Int) ≤ x.2.2.1) then .inl () else .inr (.inr (false, ()))) (fun _ => .inl (xs, ())) ()
    (fun i x s hx => ?_) (fun s => ?_) (st := (xs, 0, b, ())) rfl
  · rw [this, goL_all (fun i (x : DQuota) => decide (partsOf xs (i : Int) ≤ x.2.2.1))]
  · have hl := get_lt hx
    have hf := f2 i hl
    simp only [spec_QuotasValid_l2, spec_QuotasValid_l2K, dec_lt hx, cond_true, nnK_nat, chk_pos (show i < b.length by omega), getK_some hf, getK_some hx, wrapS (show i < 4611686018427387904 by omega), goTo_if, goTo_l, goTo_r]
    by_cases e : partsOf xs (i : Int) ≤ x.2.2.1
    · have : ¬ partsOf xs (i : Int) > x.2.2.1 := by omega
      simp [e, this]
    · have : partsOf xs (i : Int) > x.2.2.1 := by omega
      simp [e, this]
  · simp only [spec_QuotasValid_l2, spec_QuotasValid_l2K, dec_nlt, cond_false]

theorem spec_QuotasValid_ok (xs : List DQuota) (h : xs.length ≤ 1048577) : spec_QuotasValid xs = some (validQ xs) := by
  unfold spec_QuotasValid spec_QuotasValidK validQ
  rw [chk_pos (by simp [bigRow]; omega), spec_l0_ok xs h]
  cases hq : qok xs with
  | false => simp [endK]
  | true =>
    simp only [cond_true, some_bind', endK]
    rw [spec_l2_ok xs h]
    cases hp : xs.zipIdx.all (fun p => decide (partsOf xs (p.2 : Int) ≤ p.1.2.2.1)) with
    | false => simp
    | true =>
      simp only [cond_true, some_bind', Bool.true_and]
      congr 2
      simp; omega

theorem szQuotaS_ok (xs : List DQuota) (h : xs.length ≤ 9223372036854775807) : laws_szQuotaS xs 1048576 = some (if xs.length ≤ 1048576 then 1048576 - (xs.length : Int) else -1) := by
  unfold laws_szQuotaS laws_szQuotaSK
  rw [wrap64 (n := 1048576 - (xs.length : Int)) (by omega) (by omega)]
  by_cases e : xs.length ≤ 1048576
  · have : ¬ (1048576 - (xs.length : Int) < 0) := by omega
    simp [e, this]
  · have : (1048576 - (xs.length : Int) < 0) := by omega
    simp [e, this]

theorem FnExactQuotasValid_law (xs : List DQuota) (h : WfD (.cons (.sl tQuota) .nil) (xs, ())) : laws_FnExactQuotasValid xs = some true := by
  have hl : xs.length ≤ 9223372036854775807 := by have := h.1.1; simp only [maxLen] at this; omega
  unfold laws_FnExactQuotasValid laws_FnExactQuotasValidK
  rw [szQuotaS_ok xs hl]
  by_cases e : xs.length ≤ 1048576
  · have : ¬ (1048576 - (xs.length : Int) < 0) := by omega
    simp [e, this, toQuotaS_ok xs (by omega), spec_QuotasValid_ok xs (by omega), impl_QuotasValid_ok xs (by omega), eqQuotaS_ok xs xs (by omega)]
  · simp [e]

/-! ### rooms -/

def less (a b : Int) : Int := if a < b then a else b

/-- the room, upwards: quota n, its parent, and so on -/
def roomUp (xs : List DQuota) : Nat → Int → Int → Int
  | 0, _, r => r
  | f + 1, n, r => if 0 ≤ n then roomUp xs f (xs.getD n.toNat (0, 0, 0, ())).1 (less ((xs.getD n.toNat (0, 0, 0, ())).2.1 - (xs.getD n.toNat (0, 0, 0, ())).2.2.1) r) else r

theorem roomUp_neg (xs : List DQuota) {n : Int} (h : ¬ 0 ≤ n) (f : Nat) (r : Int) : roomUp xs f n r = r := by
  cases f with
  | zero => rfl
  | succ f => simp [roomUp, h]

theorem room_loop (xs : List DQuota) (h : xs.length ≤ 1048577) (hq : qok xs = true) : ∀ (f : Nat) (n r : Int), n < (xs.length : Int) → n < (f : Int) → loopF impl_QuotaRoom_l0 (xs, n, r, ()) = some (roomUp xs f n r, ()) := by
  intro f
  induction f with
  | zero =>
    intro n r h1 h2
    have : ¬ 0 ≤ n := by omega
    apply loopF_inr
    simp [impl_QuotaRoom_l0, impl_QuotaRoom_l0K, roomUp, this]
  | succ f ih =>
    intro n r h1 h2
    by_cases hn : 0 ≤ n
    · have hlt : n.toNat < xs.length := by omega
      have hx := List.getElem?_eq_getElem hlt
      have hg := qok_get hq hx
      have hstep : impl_QuotaRoom_l0 (xs, n, r, ()) = some (.inl (xs, xs[n.toNat].1, less (xs[n.toNat].2.1 - xs[n.toNat].2.2.1) r, ())) := by
        simp only [impl_QuotaRoom_l0, impl_QuotaRoom_l0K, ge_iff_le, hn, decide_true, cond_true, nnK_pos hn, getK_some hx]
        rw [wrap64 (n := xs[n.toNat].2.1 - xs[n.toNat].2.2.1) (by omega) (by omega)]
        rfl
      rw [loopF_inl hstep, ih _ _ (by omega) (by omega)]
      simp [roomUp, hn, List.getD, hx]
    · have : impl_QuotaRoom_l0 (xs, n, r, ()) = some (.inr (r, ())) := by simp [impl_QuotaRoom_l0, impl_QuotaRoom_l0K, hn]
      rw [loopF_inr this, roomUp_neg xs hn]

def inside (xs : List DQuota) (n : Int) : Bool := validQ xs && (decide (0 ≤ n) && decide (n ≤ (xs.length : Int) - 1))
def roomQ (xs : List DQuota) (n : Int) : Int := bif inside xs n then roomUp xs xs.length n 10000 else -1

theorem validQ_ok {xs : List DQuota} (h : validQ xs = true) : qok xs = true ∧ xs.length ≤ 16 := by
  simp only [validQ, Bool.and_eq_true, decide_eq_true_eq] at h
  exact ⟨h.1, h.2.2⟩

theorem quoted_ok (xs : List DQuota) (n : Int) (h : xs.length ≤ 1048577) : impl_quoted xs n = some (inside xs n) := by
  unfold impl_quoted impl_quotedK inside
  rw [impl_QuotasValid_ok xs h]
  cases hv : validQ xs with
  | false => rfl
  | true =>
    simp only [some_bind', cond_true, in_ok, Bool.true_and]
    rw [wrapP xs.length (by omega)]

theorem impl_QuotaRoom_ok (xs : List DQuota) (n : Int) (h : xs.length ≤ 1048577) : impl_QuotaRoom xs n = some (roomQ xs n) := by
  unfold impl_QuotaRoom impl_QuotaRoomK roomQ
  rw [quoted_ok xs n h]
  cases hv : inside xs n with
  | false => rfl
  | true =>
    simp only [inside, Bool.and_eq_true, decide_eq_true_eq] at hv
    simp only [some_bind', Bool.not_true, cond_false, cond_true]
    rw [room_loop xs h (validQ_ok hv.1).1 xs.length n 10000 (by omega) (by omega)]
    rfl

theorem spec_room_loop : spec_QuotaRoom_l0 = impl_QuotaRoom_l0 := rfl

theorem spec_QuotaRoom_ok (xs : List DQuota) (n : Int) (h : xs.length ≤ 1048577) : spec_QuotaRoom xs n = some (roomQ xs n) := by
  unfold spec_QuotaRoom spec_QuotaRoomK roomQ inside
  rw [spec_QuotasValid_ok xs h, spec_room_loop]
  cases hv : validQ xs with
  | false => rfl
  | true =>
    simp only [some_bind', Bool.not_true, Bool.not_false, cond_true, l1In_ok, Bool.true_and]
    rw [wrapP xs.length (by omega)]
    cases hb : (decide (0 ≤ n) && decide (n ≤ (xs.length : Int) - 1)) with
    | false => rfl
    | true =>
      simp only [Bool.and_eq_true, decide_eq_true_eq] at hb
      simp only [Bool.not_true, cond_false, cond_true]
      rw [room_loop xs h (validQ_ok hv).1 xs.length n 10000 (by omega) (by omega)]
      rfl

theorem FnExactQuotaRoom_law (xs : List DQuota) (n : Int) (h : WfD (.cons (.sl tQuota) (.cons I .nil)) (xs, n, ())) : laws_FnExactQuotaRoom xs n = some true := by
  have hl : xs.length ≤ 9223372036854775807 := by have := h.1.1; simp only [maxLen] at this; omega
  unfold laws_FnExactQuotaRoom laws_FnExactQuotaRoomK
  rw [szQuotaS_ok xs hl]
  by_cases e : xs.length ≤ 1048576
  · have : ¬ (1048576 - (xs.length : Int) < 0) := by omega
    simp [e, this, toQuotaS_ok xs (by omega), spec_QuotaRoom_ok xs n (by omega), impl_QuotaRoom_ok xs n (by omega), eqQuotaS_ok xs xs (by omega)]
  · simp [e]

/-! ### amounts -/

/-- the amount, upwards: quota n, its parent, and so on -/
def addUp (a : Int) : Nat → List DQuota → Int → List DQuota
  | 0, b, _ => b
  | f + 1, b, n => if 0 ≤ n then addUp a f (b.set n.toNat ((b.getD n.toNat (0, 0, 0, ())).1, (b.getD n.toNat (0, 0, 0, ())).2.1, (b.getD n.toNat (0, 0, 0, ())).2.2.1 + a, ())) (b.getD n.toNat (0, 0, 0, ())).1 else b

theorem addUp_neg (a : Int) (b : List DQuota) {n : Int} (h : ¬ 0 ≤ n) (f : Nat) : addUp a f b n = b := by
  cases f with
  | zero => rfl
  | succ f => simp [addUp, h]

theorem addUp_length (a : Int) : ∀ (f : Nat) (b : List DQuota) (n : Int), (addUp a f b n).length = b.length
  | 0, _, _ => rfl
  | f + 1, b, n => by
    simp only [addUp]
    split
    · rw [addUp_length]; simp
    · rfl

/-- what a walk upwards leans on -/
def upOk (b : List DQuota) (n : Int) : Prop := ∀ (i : Nat) (q : DQuota), b[i]? = some q → (i : Int) ≤ n → -1 ≤ q.1 ∧ q.1 ≤ (i : Int) - 1 ∧ 0 ≤ q.2.2.1 ∧ q.2.2.1 ≤ 10000

theorem upOk_step {b : List DQuota} {n : Int} (h : upOk b n) (hn : 0 ≤ n) (v : DQuota) (hlt : n.toNat < b.length) : upOk (b.set n.toNat v) b[n.toNat].1 := by
  have hx := h n.toNat b[n.toNat] (List.getElem?_eq_getElem hlt) (by omega)
  intro i q hi hle
  rw [List.getElem?_set_ne (by omega)] at hi
  exact h i q hi (by omega)

theorem upOk_of {xs : List DQuota} (h : qok xs = true) (n : Int) : upOk xs n := fun i q hq _ => by
  have := qok_get h hq
  omega

theorem add_loop (a : Int) (ha : -10000 ≤ a ∧ a ≤ 10000) : ∀ (f : Nat) (b : List DQuota) (n : Int), b.length ≤ 1048577 → n < (b.length : Int) → n < (f : Int) → upOk b n → loopF impl_added_l0 (n, a, b, ()) = some (addUp a f b n, ()) := by
  intro f
  induction f with
  | zero =>
    intro b n hl h1 h2 _
    have : ¬ 0 ≤ n := by omega
    apply loopF_inr
    simp [impl_added_l0, impl_added_l0K, addUp, this]
  | succ f ih =>
    intro b n hl h1 h2 hu
    by_cases hn : 0 ≤ n
    · have hlt : n.toNat < b.length := by omega
      have hx := List.getElem?_eq_getElem hlt
      have hg := hu n.toNat b[n.toNat] hx (by omega)
      have hstep : impl_added_l0 (n, a, b, ()) = some (.inl (b[n.toNat].1, a, b.set n.toNat (b[n.toNat].1, b[n.toNat].2.1, b[n.toNat].2.2.1 + a, ()), ())) := by
        simp only [impl_added_l0, impl_added_l0K, ge_iff_le, hn, decide_true, cond_true, nnK_pos hn, getK_some hx, chk_pos hlt, List.length_set]
        rw [wrap64 (n := b[n.toNat].2.2.1 + a) (by omega) (by omega)]
        simp [getK, hlt]
      rw [loopF_inl hstep, ih _ _ (by simpa using hl) (by simp; omega) (by omega) (upOk_step hu hn _ hlt)]
      simp [addUp, hn, List.getD, hx]
    · have : impl_added_l0 (n, a, b, ()) = some (.inr (b, ())) := by simp [impl_added_l0, impl_added_l0K, hn]
      rw [loopF_inr this, addUp_neg a b hn]

theorem spec_add_loop : spec_UseQuota_l0 = impl_added_l0 := rfl

theorem clone_ok (xs : List DQuota) (h : xs.length ≤ 1048577) : impl_clone_Quota xs = some xs := by
  have hb : xs.length ≤ bigRow := by simp only [bigRow]; omega
  simp [impl_clone_Quota, impl_clone_QuotaK, slices_Clone_Quota, slices_Clone_QuotaK, slices_Clip_Quota, slices_Clip_QuotaK, chk, hb]

theorem added_ok (xs : List DQuota) (n a : Int) (h : xs.length ≤ 1048577) (ha : -10000 ≤ a ∧ a ≤ 10000) (hq : qok xs = true) (hn : n < (xs.length : Int)) : impl_added xs n a = some (addUp a xs.length xs n) := by
  unfold impl_added impl_addedK
  rw [clone_ok xs h]
  simp only [some_bind']
  rw [add_loop a ha xs.length xs n h hn (by omega) (upOk_of hq n)]
  rfl

theorem roomUp_range (xs : List DQuota) (hq : qok xs = true) : ∀ (f : Nat) (n r : Int), n < (xs.length : Int) → 0 ≤ r → 0 ≤ roomUp xs f n r ∧ roomUp xs f n r ≤ r
  | 0, n, r, _, hr => ⟨hr, Int.le_refl _⟩
  | f + 1, n, r, hn, hr => by
    simp only [roomUp]
    split
    · rename_i h0
      have hlt : n.toNat < xs.length := by omega
      have hx := List.getElem?_eq_getElem hlt
      have hg := qok_get hq hx
      simp only [List.getD, hx, Option.getD_some]
      have := roomUp_range xs hq f xs[n.toNat].1 (less (xs[n.toNat].2.1 - xs[n.toNat].2.2.1) r) (by omega) (by unfold less; split <;> omega)
      have hl : less (xs[n.toNat].2.1 - xs[n.toNat].2.2.1) r ≤ r := by unfold less; split <;> omega
      omega
    · exact ⟨hr, Int.le_refl _⟩

theorem roomQ_in {xs : List DQuota} {n : Int} (h : inside xs n = true) : 0 ≤ roomQ xs n ∧ roomQ xs n ≤ 10000 := by
  have h' := h
  simp only [inside, Bool.and_eq_true, decide_eq_true_eq] at h'
  simp only [roomQ, h, cond_true]
  exact roomUp_range xs (validQ_ok h'.1).1 xs.length n 10000 (by omega) (by omega)

theorem roomQ_out {xs : List DQuota} {n : Int} (h : inside xs n = false) : roomQ xs n = -1 := by simp [roomQ, h]

def useQ (xs : List DQuota) (n a : Int) : Bool × List DQuota :=
  bif inside xs n && decide (0 ≤ a) then (if a > roomQ xs n then (false, xs) else (true, addUp a xs.length xs n)) else (false, [])

theorem useQ_length (xs : List DQuota) (n a : Int) (h : xs.length ≤ 1048577) : (useQ xs n a).2.length ≤ 1048577 := by
  unfold useQ
  cases inside xs n && decide (0 ≤ a) with
  | false => simp
  | true =>
    simp only [cond_true]
    split
    · exact h
    · simp only [addUp_length]; exact h

theorem impl_UseQuota_ok (xs : List DQuota) (n a : Int) (h : xs.length ≤ 1048577) : impl_UseQuota xs n a = some (useQ xs n a) := by
  unfold impl_UseQuota impl_UseQuotaK useQ
  rw [quoted_ok xs n h]
  cases hi : inside xs n with
  | false => simp
  | true =>
    have hi' := hi
    simp only [inside, Bool.and_eq_true, decide_eq_true_eq] at hi'
    by_cases ha : a < 0
    · have : ¬ 0 ≤ a := by omega
      simp [ha, this]
    · have ha' : 0 ≤ a := by omega
      have hr := roomQ_in hi
      simp only [some_bind', Bool.not_true, Bool.not_false, cond_true, ha, ha', decide_false, decide_true, cond_false, Bool.and_self, impl_QuotaRoom_ok xs n h]
      by_cases hg : a > roomQ xs n
      · simp [hg, clone_ok xs h]
      · simp only [hg, decide_false, cond_false, if_false]
        rw [added_ok xs n a h (by omega) (validQ_ok hi'.1).1 (by omega)]
        rfl

theorem spec_UseQuota_ok (xs : List DQuota) (n a : Int) (h : xs.length ≤ 1048577) : spec_UseQuota xs n a = some (useQ xs n a) := by
  unfold spec_UseQuota spec_UseQuotaK useQ
  rw [spec_QuotaRoom_ok xs n h, spec_add_loop]
  cases hi : inside xs n with
  | false => simp [roomQ_out hi]
  | true =>
    have hi' := hi
    simp only [inside, Bool.and_eq_true, decide_eq_true_eq] at hi'
    have hr := roomQ_in hi
    have h0 : ¬ roomQ xs n < 0 := by omega
    by_cases ha : a < 0
    · have : ¬ 0 ≤ a := by omega
      simp [ha, this, h0]
    · have ha' : 0 ≤ a := by omega
      simp only [some_bind', h0, decide_false, Bool.not_false, cond_true, ha, ha', decide_true, cond_false, Bool.and_self]
      rw [chk_pos (by simp [bigRow]; omega)]
      by_cases hg : a > roomQ xs n
      · simp [hg]
      · simp only [hg, decide_false, cond_false, if_false]
        rw [add_loop a (by omega) xs.length xs n h (by omega) (by omega) (upOk_of (validQ_ok hi'.1).1 n)]
        rfl

theorem FnExactUseQuota_law (xs : List DQuota) (n a : Int) (h : WfD (.cons (.sl tQuota) (.cons I (.cons I .nil))) (xs, n, a, ())) : laws_FnExactUseQuota xs n a = some true := by
  have hl : xs.length ≤ 9223372036854775807 := by have := h.1.1; simp only [maxLen] at this; omega
  unfold laws_FnExactUseQuota laws_FnExactUseQuotaK
  rw [szQuotaS_ok xs hl]
  by_cases e : xs.length ≤ 1048576
  · have h0 : ¬ (1048576 - (xs.length : Int) < 0) := by omega
    have hr := useQ_length xs n a (by omega)
    have k1 : ¬ ((1 : Int) + 3 * (xs.length : Int) < 0) := by omega
    have k2 : ¬ ((1 : Int) + 3 * ((useQ xs n a).2.length : Int) < 0) := by omega
    simp [e, h0, toQuotaS_ok xs (by omega), spec_UseQuota_ok xs n a (by omega), impl_UseQuota_ok xs n a (by omega), eqQuotaS_ok xs xs (by omega), eqQuotaS_ok _ _ hr,
      markQuotaS_ok xs 1 (by omega) (by omega), markQuotaS_ok (useQ xs n a).2 1 (by omega) (by omega), heldQuotaS_ok (useQ xs n a).2.length 1 (by omega) (by omega) hr, k1, k2]
  · simp [e]

/-! ### freeing -/

theorem rest_fold (n : Int) : ∀ (r : List DQuota) (s : Int), r.foldl (fun s q => if q.1 = n then s - q.2.2.1 else s) s = s - partsOf r n
  | [], s => by simp [partsOf]
  | q :: r, s => by
    simp only [List.foldl_cons, partsOf]
    rw [rest_fold n r]
    split <;> omega

theorem rest_loop (xs : List DQuota) (n a u : Int) (h : xs.length ≤ 1048577) (hq : qok xs = true) (hu : 0 ≤ u ∧ u ≤ 10000) : loopF spec_FreeQuota_l0 (xs, n, a, u, 0, xs, ()) = some (n, a, u - partsOf xs n, xs, ()) := by
  have := loop_list1 (nxt := spec_FreeQuota_l0) xs (fun i s => (xs, n, a, s, (i : Int), xs, ())) (fun _ q s => .inl (if q.1 = n then s - q.2.2.1 else s)) (fun s => (n, a, s, xs, ())) (fun i s => -10000 * (i : Int) ≤ s ∧ s ≤ 10000) u
    (fun i x s hs hx => ?_) (fun i x s s' hs hx e => ?_) (fun s _ => ?_) (by omega) (st := (xs, n, a, u, 0, xs, ())) rfl
  · rw [this, goL_fold (fun s (q : DQuota) => if q.1 = n then s - q.2.2.1 else s), rest_fold]
  · have hl := get_lt hx
    have hb := qok_mem hq x (List.mem_of_getElem? hx)
    simp only [spec_FreeQuota_l0, spec_FreeQuota_l0K, dec_lt hx, cond_true, nnK_nat, getK_some hx, wrapS (show i < 4611686018427387904 by omega), goTo_l]
    by_cases e : x.1 = n
    · simp only [e, beq_self_eq_true, cond_true, if_true]
      rw [wrap64 (n := s - x.2.2.1) (by omega) (by omega)]
    · have : (x.1 == n) = false := by simpa using e
      simp only [this, cond_false, e, if_false]
  · have hb := qok_mem hq x (List.mem_of_getElem? hx)
    cases e
    push_cast
    split <;> omega
  · simp only [spec_FreeQuota_l0, spec_FreeQuota_l0K, dec_nlt, cond_false]

theorem sub_loop (a : Int) (ha : -10000 ≤ a ∧ a ≤ 10000) : ∀ (f : Nat) (b : List DQuota) (n : Int), b.length ≤ 1048577 → n < (b.length : Int) → n < (f : Int) → upOk b n → loopF spec_FreeQuota_l2 (n, a, b, ()) = some (addUp (-a) f b n, ()) := by
  intro f
  induction f with
  | zero =>
    intro b n hl h1 h2 _
    have : ¬ 0 ≤ n := by omega
    apply loopF_inr
    simp [spec_FreeQuota_l2, spec_FreeQuota_l2K, addUp, this]
  | succ f ih =>
    intro b n hl h1 h2 hu
    by_cases hn : 0 ≤ n
    · have hlt : n.toNat < b.length := by omega
      have hx := List.getElem?_eq_getElem hlt
      have hg := hu n.toNat b[n.toNat] hx (by omega)
      have hstep : spec_FreeQuota_l2 (n, a, b, ()) = some (.inl (b[n.toNat].1, a, b.set n.toNat (b[n.toNat].1, b[n.toNat].2.1, b[n.toNat].2.2.1 + -a, ()), ())) := by
        simp only [spec_FreeQuota_l2, spec_FreeQuota_l2K, ge_iff_le, hn, decide_true, cond_true, nnK_pos hn, getK_some hx, chk_pos hlt, List.length_set]
        rw [wrap64 (n := b[n.toNat].2.2.1 - a) (by omega) (by omega)]
        simp [getK, hlt, Int.sub_eq_add_neg]
      rw [loopF_inl hstep, ih _ _ (by simpa using hl) (by simp; omega) (by omega) (upOk_step hu hn _ hlt)]
      simp [addUp, hn, List.getD, hx]
    · have : spec_FreeQuota_l2 (n, a, b, ()) = some (.inr (b, ())) := by simp [spec_FreeQuota_l2, spec_FreeQuota_l2K, hn]
      rw [loopF_inr this, addUp_neg (-a) b hn]

def freeQ (xs : List DQuota) (n a : Int) : Bool × List DQuota :=
  bif inside xs n && decide (0 ≤ a) then (if (xs.getD n.toNat (0, 0, 0, ())).2.2.1 - a < partsOf xs n then (false, xs) else (true, addUp (-a) xs.length xs n)) else (false, [])

theorem freeQ_length (xs : List DQuota) (n a : Int) (h : xs.length ≤ 1048577) : (freeQ xs n a).2.length ≤ 1048577 := by
  unfold freeQ
  cases inside xs n && decide (0 ≤ a) with
  | false => simp
  | true =>
    simp only [cond_true]
    split
    · exact h
    · simp only [addUp_length]; exact h

theorem impl_FreeQuota_ok (xs : List DQuota) (n a : Int) (h : xs.length ≤ 1048577) (ha1 : a ≤ 9223372036854775807) : impl_FreeQuota xs n a = some (freeQ xs n a) := by
  unfold impl_FreeQuota impl_FreeQuotaK freeQ
  rw [quoted_ok xs n h]
  cases hi : inside xs n with
  | false => simp
  | true =>
    have hi' := hi
    simp only [inside, Bool.and_eq_true, decide_eq_true_eq] at hi'
    have hq := (validQ_ok hi'.1).1
    by_cases ha : a < 0
    · have : ¬ 0 ≤ a := by omega
      simp [ha, this]
    · have ha' : 0 ≤ a := by omega
      have hlt : n.toNat < xs.length := by omega
      have hx := List.getElem?_eq_getElem hlt
      have hg := qok_get hq hx
      have hp := parts_bound xs n (qok_mem hq)
      simp only [some_bind', Bool.not_true, Bool.not_false, cond_true, ha, ha', decide_false, decide_true, cond_false, Bool.and_self, nnK_pos hi'.2.1, getK_some hx, parts_ok xs n h (qok_mem hq)]
      rw [wrap64 (n := xs[n.toNat].2.2.1 - a) (by omega) (by omega)]
      have hd : (xs.getD n.toNat (0, 0, 0, ())) = xs[n.toNat] := by simp [List.getD, hx]
      rw [hd]
      by_cases hc : xs[n.toNat].2.2.1 - a < partsOf xs n
      · simp [hc, clone_ok xs h]
      · simp only [hc, decide_false, cond_false, if_false]
        rw [wrap64 (n := 0 - a) (by omega) (by omega), show (0 - a) = -a from by omega, added_ok xs n (-a) h (by omega) hq (by omega)]
        rfl

theorem spec_FreeQuota_ok (xs : List DQuota) (n a : Int) (h : xs.length ≤ 1048577) : spec_FreeQuota xs n a = some (freeQ xs n a) := by
  unfold spec_FreeQuota spec_FreeQuotaK freeQ
  rw [spec_QuotaRoom_ok xs n h]
  cases hi : inside xs n with
  | false => simp [roomQ_out hi]
  | true =>
    have hi' := hi
    simp only [inside, Bool.and_eq_true, decide_eq_true_eq] at hi'
    have hq := (validQ_ok hi'.1).1
    have hr := roomQ_in hi
    have h0 : ¬ roomQ xs n < 0 := by omega
    by_cases ha : a < 0
    · have : ¬ 0 ≤ a := by omega
      simp [ha, this, h0]
    · have ha' : 0 ≤ a := by omega
      have hlt : n.toNat < xs.length := by omega
      have hx := List.getElem?_eq_getElem hlt
      have hg := qok_get hq hx
      have hp := parts_bound xs n (qok_mem hq)
      simp only [some_bind', h0, decide_false, Bool.not_false, cond_true, ha, ha', decide_true, cond_false, Bool.and_self, nnK_pos hi'.2.1, getK_some hx]
      rw [chk_pos (by simp [bigRow]; omega), rest_loop xs n a _ h hq (by omega)]
      have hd : (xs.getD n.toNat (0, 0, 0, ())) = xs[n.toNat] := by simp [List.getD, hx]
      rw [hd]
      simp only [some_bind']
      by_cases hc : xs[n.toNat].2.2.1 - a < partsOf xs n
      · have : a > xs[n.toNat].2.2.1 - partsOf xs n := by omega
        simp [hc, this]
      · have : ¬ a > xs[n.toNat].2.2.1 - partsOf xs n := by omega
        simp only [hc, this, decide_false, cond_false, if_false]
        rw [sub_loop a (by omega) xs.length xs n h (by omega) (by omega) (upOk_of hq n)]
        rfl

theorem FnExactFreeQuota_law (xs : List DQuota) (n a : Int) (h : WfD (.cons (.sl tQuota) (.cons I (.cons I .nil))) (xs, n, a, ())) : laws_FnExactFreeQuota xs n a = some true := by
  have hl : xs.length ≤ 9223372036854775807 := by have := h.1.1; simp only [maxLen] at this; omega
  have ha : a ≤ 9223372036854775807 := h.2.2.1.2
  unfold laws_FnExactFreeQuota laws_FnExactFreeQuotaK
  rw [szQuotaS_ok xs hl]
  by_cases e : xs.length ≤ 1048576
  · have h0 : ¬ (1048576 - (xs.length : Int) < 0) := by omega
    have hr := freeQ_length xs n a (by omega)
    have k1 : ¬ ((1 : Int) + 3 * (xs.length : Int) < 0) := by omega
    have k2 : ¬ ((1 : Int) + 3 * ((freeQ xs n a).2.length : Int) < 0) := by omega
    simp [e, h0, toQuotaS_ok xs (by omega), spec_FreeQuota_ok xs n a (by omega), impl_FreeQuota_ok xs n a (by omega) ha, eqQuotaS_ok xs xs (by omega), eqQuotaS_ok _ _ hr,
      markQuotaS_ok xs 1 (by omega) (by omega), markQuotaS_ok (freeQ xs n a).2 1 (by omega) (by omega), heldQuotaS_ok (freeQ xs n a).2.length 1 (by omega) (by omega) hr, k1, k2]
  · simp [e]

end Go.Ev
