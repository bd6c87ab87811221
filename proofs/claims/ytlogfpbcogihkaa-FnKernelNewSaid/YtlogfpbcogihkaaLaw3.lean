/-
  Kernels: moving, minting, deleting.
-/
import Derived.Test.YtlogfpbcogihkaaLaw1
namespace Go.Ev
set_option linter.unusedVariables false
set_option linter.unusedSimpArgs false
set_option maxRecDepth 100000
set_option synthInstance.maxSize 2000
set_option synthInstance.maxHeartbeats 400000

/-! ### clones -/

theorem Clone_Entry_ok (xs : List DEntry) (h : xs.length ≤ 1048577) : slices_Clone_Entry xs = some xs := by
  unfold slices_Clone_Entry slices_Clone_EntryK
  rw [chk_pos (by simp only [bigRow]; omega)]

theorem Clip_Entry_ok (b : List DEntry) : slices_Clip_Entry b = some b := by
  unfold slices_Clip_Entry slices_Clip_EntryK
  rw [chk_pos (by omega), chk_pos (by omega)]

theorem clone_Entry_ok (xs : List DEntry) (h : xs.length ≤ 1048577) : impl_clone_Entry xs = some xs := by
  unfold impl_clone_Entry impl_clone_EntryK
  simp [Clone_Entry_ok xs h, Clip_Entry_ok]

theorem Clone_int_ok (xs : List Int) (h : xs.length ≤ 1048577) : slices_Clone_int xs = some xs := by
  unfold slices_Clone_int slices_Clone_intK
  rw [chk_pos (by simp only [bigRow]; omega)]

theorem Clip_int_ok (b : List Int) : slices_Clip_int b = some b := by
  unfold slices_Clip_int slices_Clip_intK
  rw [chk_pos (by omega), chk_pos (by omega)]

theorem clone_int_ok (xs : List Int) (h : xs.length ≤ 1048577) : impl_clone_int xs = some xs := by
  unfold impl_clone_int impl_clone_intK
  simp [Clone_int_ok xs h, Clip_int_ok]

theorem copyOf_ok (k : DKernel) (h1 : k.2.1.length ≤ 1048577) (h2 : k.2.2.1.length ≤ 1048577) : impl_Kernel_copyOf k = some (k.1.1, k.1.2.1, k.1.2.2.1, k.2.2.2.1, k.2.1, k.2.2.1) := by
  unfold impl_Kernel_copyOf impl_Kernel_copyOfK
  simp [clone_Entry_ok _ h1, clone_int_ok _ h2]

theorem l25Copy_ok (k : DKernel) (h1 : k.2.1.length ≤ 1048577) (h2 : k.2.2.1.length ≤ 1048577) : spec_l25Copy k = some (k.1.1, k.1.2.1, k.1.2.2.1, k.2.2.2.1, k.2.1, k.2.2.1) := by
  unfold spec_l25Copy spec_l25CopyK
  rw [chk_pos (by simp only [bigRow]; omega), chk_pos (by simp only [bigRow]; omega)]

abbrev KRes := Int × Int × Int × Int × Int × List DEntry × List Int
def kBad : KRes := (0, 0, 0, 0, 3, [], [])
def kSt (k : DKernel) (code : Int) : KRes := (k.1.1, k.1.2.1, k.1.2.2.1, k.2.2.2.1, code, k.2.1, k.2.2.1)

theorem kernV_parts {k : DKernel} (h : kernV k = true) : pieceV k.1 = true ∧ derV k.2.1 = true ∧ plV k.2.2.1 = true ∧ (0 ≤ k.2.2.2.1 ∧ k.2.2.2.1 ≤ 100) ∧ (∀ i v, k.2.1[i]? = some v → knOk k i v = true) ∧ (∀ n ∈ k.2.2.1, n < (k.2.1.length : Int)) := by
  simp only [kernV, Bool.and_eq_true, Bool.not_eq_true', List.any_eq_false] at h
  obtain ⟨h1, h2, h3, h4, h5, h6⟩ := h
  refine ⟨h1, h2, h3, by simpa [rgt] using h4, all_zip0.1 h5, fun n hn => ?_⟩
  have := h6 n hn
  simp only [decide_eq_true_eq] at this
  omega

theorem plV_get {xs : List Int} (h : plV xs = true) {i : Nat} {v : Int} (hv : xs[i]? = some v) : (-1 ≤ v ∧ v ≤ 29) ∧ (0 ≤ v → noneI xs i v = true) := by
  simp only [plV, Bool.and_eq_true] at h
  have := all_zip0.1 h.1 i v hv
  simp only [plOk, rgt, Bool.and_eq_true, decide_eq_true_eq, Bool.or_eq_true, Bool.not_eq_true', decide_eq_false_iff_not] at this
  refine ⟨this.1, fun hp => ?_⟩
  rcases this.2 with q | q
  · exact absurd hp q
  · exact q

theorem plV_len {xs : List Int} (h : plV xs = true) : xs.length ≤ 40 := by
  simp only [plV, Bool.and_eq_true, decide_eq_true_eq] at h
  exact h.2

theorem derV_len {d : List DEntry} (h : derV d = true) : d.length ≤ 30 := by
  simp only [derV, Bool.and_eq_true, decide_eq_true_eq] at h
  exact h.2

theorem pl_inj {xs : List Int} (h : plV xs = true) {i j : Nat} {v : Int} (hi : xs[i]? = some v) (hj : xs[j]? = some v) (hv : 0 ≤ v) : i = j := by
  have key : ∀ {i j : Nat}, xs[i]? = some v → xs[j]? = some v → ¬ j < i := by
    intro i j hi hj hlt
    have := (plV_get h hi).2 hv
    simp only [noneI, List.all_eq_true] at this
    have := this v (List.mem_take_iff_getElem.2 ⟨j, by have := get_lt hi; omega, (List.getElem?_eq_some_iff.1 hj).2⟩)
    simp at this
  rcases Nat.lt_trichotomy i j with q | q | q
  · exact absurd q (key hj hi)
  · exact q
  · exact absurd q (key hi hj)

def slotIn (xs : List Int) (s : Int) : Bool := rgt s 0 ((xs.length : Int) - 1)

theorem slotIn_iff {xs : List Int} {s : Int} : slotIn xs s = true ↔ 0 ≤ s ∧ s.toNat < xs.length := by
  simp only [slotIn, rgt, Bool.and_eq_true, decide_eq_true_eq]
  omega

theorem iget_of {xs : List Int} {i : Nat} (h : i < xs.length) : xs[i]? = some (xs.getD i 0) := by simp [List.getD, h]

theorem has_ok (k : DKernel) (s : Int) (h2 : k.2.2.1.length ≤ 1048577) : impl_Kernel_has k s = some (slotIn k.2.2.1 s && decide (k.2.2.1.getD s.toNat 0 ≥ 0)) := by
  unfold impl_Kernel_has impl_Kernel_hasK
  rw [wrapP _ (by omega), in_ok]
  show (bif slotIn k.2.2.1 s then _ else _) = _
  cases hs : slotIn k.2.2.1 s with
  | false => rfl
  | true =>
    obtain ⟨h0, h1⟩ := slotIn_iff.1 hs
    simp only [cond_true, nnK_pos h0, getK_some (iget_of h1), Bool.true_and]

theorem empty_ok (k : DKernel) (s : Int) (h2 : k.2.2.1.length ≤ 1048577) : impl_Kernel_empty k s = some (slotIn k.2.2.1 s && decide (k.2.2.1.getD s.toNat 0 < 0)) := by
  unfold impl_Kernel_empty impl_Kernel_emptyK
  rw [wrapP _ (by omega), in_ok]
  show (bif slotIn k.2.2.1 s then _ else _) = _
  cases hs : slotIn k.2.2.1 s with
  | false => rfl
  | true =>
    obtain ⟨h0, h1⟩ := slotIn_iff.1 hs
    simp only [cond_true, nnK_pos h0, getK_some (iget_of h1), Bool.true_and]

theorem slot_ok (k : DKernel) (s : Int) (h2 : k.2.2.1.length ≤ 1048577) : spec_l25Slot k s = some (slotIn k.2.2.1 s, slotIn k.2.2.1 s && decide (k.2.2.1.getD s.toNat 0 ≥ 0)) := by
  unfold spec_l25Slot spec_l25SlotK
  rw [wrapP _ (by omega), l1In_ok]
  show (bif !slotIn k.2.2.1 s then _ else _) = _
  cases hs : slotIn k.2.2.1 s with
  | false => rfl
  | true =>
    obtain ⟨h0, h1⟩ := slotIn_iff.1 hs
    simp only [Bool.not_true, cond_false, nnK_pos h0, getK_some (iget_of h1), Bool.true_and]

theorem not_neg (n : Int) : decide (n < 0) = !decide (n ≥ 0) := by by_cases q : n < 0 <;> simp [q] <;> omega

/-! ### moving -/

def moveP (xs : List Int) (f t : Int) : Bool × List Int :=
  bif slotIn xs f && (slotIn xs t && (decide (xs.getD f.toNat 0 ≥ 0) && !decide (xs.getD t.toNat 0 ≥ 0))) then (true, (xs.set t.toNat (xs.getD f.toNat 0)).set f.toNat (-1)) else (false, xs)

theorem spec_MovePlace_ok (xs : List Int) (f t : Int) (hv : plV xs = true) : spec_MovePlace xs f t = some (moveP xs f t) := by
  have hl := plV_len hv
  unfold spec_MovePlace spec_MovePlaceK moveP
  rw [spec_PlacesValid_ok xs (by omega), hv]
  simp only [B7, Bool.not_true, cond_false]
  rw [chk_pos (by simp only [bigRow]; omega), wrapP _ (by omega), l1In_ok, l1In_ok]
  show (bif (!(!slotIn xs f)) then (bif (!(!slotIn xs t)) then _ else _) else _) = _
  cases hf : slotIn xs f with
  | false => rfl
  | true =>
    cases ht : slotIn xs t with
    | false => rfl
    | true =>
      obtain ⟨f0, f1⟩ := slotIn_iff.1 hf
      obtain ⟨t0, t1⟩ := slotIn_iff.1 ht
      simp only [Bool.not_true, Bool.not_false, cond_true, nnK_pos f0, nnK_pos t0, getK_some (iget_of f1), getK_some (iget_of t1), Bool.true_and, not_neg]
      cases decide (xs.getD f.toNat 0 ≥ 0) with
      | false => rfl
      | true =>
        cases decide (xs.getD t.toNat 0 ≥ 0) with
        | true => rfl
        | false =>
          simp only [Bool.not_true, Bool.not_false, cond_true, cond_false, Bool.and_self]
          rw [chk_pos t1, chk_pos (by simp; exact f1), getK_lt (by simp; exact f1)]

theorem impl_MovePlace_ok (xs : List Int) (f t : Int) (hv : plV xs = true) : impl_MovePlace xs f t = some (moveP xs f t) := by
  have hl := plV_len hv
  unfold impl_MovePlace impl_MovePlaceK impl_exchange impl_exchangeK moveP
  rw [impl_PlacesValid_ok xs (by omega), hv, clone_int_ok xs (by omega)]
  simp only [B7, Bool.not_true, cond_false]
  rw [wrapP _ (by omega), in_ok, in_ok]
  show Option.bind (bif (!(!slotIn xs f)) then (bif (!(!slotIn xs t)) then _ else _) else _) _ = _
  cases hf : slotIn xs f with
  | false => rfl
  | true =>
    cases ht : slotIn xs t with
    | false => rfl
    | true =>
      obtain ⟨f0, f1⟩ := slotIn_iff.1 hf
      obtain ⟨t0, t1⟩ := slotIn_iff.1 ht
      unfold impl_MovePlace_c1 impl_MovePlace_c1K
      simp only [Bool.not_true, Bool.not_false, cond_true, nnK_pos f0, nnK_pos t0, getK_some (iget_of f1), getK_some (iget_of t1), Bool.true_and, not_neg]
      by_cases hp : xs.getD f.toNat 0 ≥ 0
      · by_cases hq : xs.getD t.toNat 0 ≥ 0
        · simp only [hp, hq, decide_true, cond_true, B7, Bool.not_true, Bool.not_false, Bool.and_false, cond_false]
        · simp only [hp, hq, decide_true, decide_false, cond_true, B7, Bool.not_true, Bool.not_false, Bool.and_self, cond_false]
          rw [chk_pos t1, chk_pos f1, getK_lt (by simp; exact t1)]
          have hm : xs.getD t.toNat 0 = -1 := by
            have := (plV_get hv (iget_of t1)).1
            omega
          have hne : f.toNat ≠ t.toNat := fun e => by rw [e] at hp; exact hq hp
          rw [List.set_comm _ _ hne, hm, chk_pos (show t.toNat < (xs.set f.toNat (-1)).length by rw [List.length_set]; exact t1), chk_pos f1]
          rfl
      · simp only [hp, decide_false, cond_false, B7, Bool.not_false, cond_true, Bool.false_and]


def sysMove (k : DKernel) (f t : Int) : KRes :=
  bif kernV k then (bif (moveP k.2.2.1 f t).1 then (k.1.1, k.1.2.1, k.1.2.2.1, k.2.2.2.1, 0, k.2.1, (moveP k.2.2.1 f t).2) else kSt k 1) else kBad

theorem spec_SysMove_ok (k : DKernel) (f t : Int) (h1 : k.2.1.length ≤ 1048577) (h2 : k.2.2.1.length ≤ 1048577) : spec_SysMove k f t = some (sysMove k f t) := by
  unfold spec_SysMove spec_SysMoveK sysMove
  have ek : ((k.1.1, k.1.2.1, k.1.2.2.1, ()), k.2.1, k.2.2.1, k.2.2.2.1, ()) = k := rfl
  rw [ek, spec_KernelValid_ok k h1 h2]
  cases hv : kernV k with
  | false => rfl
  | true =>
    obtain ⟨_, _, hp, _⟩ := kernV_parts hv
    simp only [B7, Bool.not_true, cond_false, cond_true, l25Copy_ok k h1 h2, spec_MovePlace_ok _ f t hp]
    cases (moveP k.2.2.1 f t).1 <;> rfl

theorem impl_SysMove_ok (k : DKernel) (f t : Int) (h1 : k.2.1.length ≤ 1048577) (h2 : k.2.2.1.length ≤ 1048577) : impl_SysMove k f t = some (sysMove k f t) := by
  unfold impl_SysMove impl_SysMoveK sysMove
  have ek : ((k.1.1, k.1.2.1, k.1.2.2.1, ()), k.2.1, k.2.2.1, k.2.2.2.1, ()) = k := rfl
  rw [ek, impl_KernelValid_ok k h1 h2]
  cases hv : kernV k with
  | false => rfl
  | true =>
    obtain ⟨_, _, hp, _⟩ := kernV_parts hv
    simp only [B7, Bool.not_true, cond_false, cond_true, copyOf_ok k h1 h2, impl_MovePlace_ok _ f t hp]
    cases (moveP k.2.2.1 f t).1 <;> rfl

/-- no longer than before, by one at most -/
def kFit (k : DKernel) (r : KRes) : Prop := r.2.2.2.2.2.1.length ≤ k.2.1.length + 1 ∧ r.2.2.2.2.2.2.length ≤ k.2.2.1.length

theorem kFit_st (k : DKernel) (c : Int) : kFit k (kSt k c) := ⟨by simp [kSt], by simp [kSt]⟩
theorem kFit_bad (k : DKernel) : kFit k kBad := ⟨by simp [kBad], by simp [kBad]⟩

theorem sysMove_fit (k : DKernel) (f t : Int) : kFit k (sysMove k f t) := by
  unfold sysMove
  cases kernV k with
  | false => exact kFit_bad k
  | true =>
    simp only [cond_true]
    unfold moveP
    cases (slotIn k.2.2.1 f && (slotIn k.2.2.1 t && (decide (k.2.2.1.getD f.toNat 0 ≥ 0) && !decide (k.2.2.1.getD t.toNat 0 ≥ 0)))) with
    | false => exact kFit_st k 1
    | true => exact ⟨by simp, by simp⟩

theorem kRes_eq (r : KRes) (h1 : r.2.2.2.2.2.1.length ≤ 1048577) (h2 : r.2.2.2.2.2.2.length ≤ 1048577) :
    laws_eqKernel ((r.1, r.2.1, r.2.2.1, ()), r.2.2.2.2.2.1, r.2.2.2.2.2.2, r.2.2.2.1, ()) ((r.1, r.2.1, r.2.2.1, ()), r.2.2.2.2.2.1, r.2.2.2.2.2.2, r.2.2.2.1, ()) = some true :=
  eqKernel_ok ((r.1, r.2.1, r.2.2.1, ()), r.2.2.2.2.2.1, r.2.2.2.2.2.2, r.2.2.2.1, ()) h1 h2

/-- the end of every such law -/
theorem kMark (k : DKernel) (h1 : k.2.1.length ≤ 1048577) (h2 : k.2.2.1.length ≤ 1048577) : laws_markKernel k.1.1 k.1.2.1 k.1.2.2.1 k.2.2.2.1 1 k.2.1 k.2.2.1 = some (1 + 6 * (k.2.1.length : Int) + 1 * (k.2.2.1.length : Int), marks EEntry 6 k.2.1.length 1, marks EInt 1 k.2.2.1.length (1 + 6 * (k.2.1.length : Int))) := markKernel_ok _ _ _ _ _ _ h1 h2
theorem rMark (r : KRes) (h1 : r.2.2.2.2.2.1.length ≤ 1048577) (h2 : r.2.2.2.2.2.2.length ≤ 1048577) : laws_markKernel r.1 r.2.1 r.2.2.1 r.2.2.2.1 1 r.2.2.2.2.2.1 r.2.2.2.2.2.2 =
    some (1 + 6 * (r.2.2.2.2.2.1.length : Int) + 1 * (r.2.2.2.2.2.2.length : Int), marks EEntry 6 r.2.2.2.2.2.1.length 1, marks EInt 1 r.2.2.2.2.2.2.length (1 + 6 * (r.2.2.2.2.2.1.length : Int))) := markKernel_ok _ _ _ _ _ _ h1 h2
theorem rHeld (r : KRes) (h1 : r.2.2.2.2.2.1.length ≤ 1048577) (h2 : r.2.2.2.2.2.2.length ≤ 1048577) :
    laws_heldKernel ((r.1, r.2.1, r.2.2.1, ()), marks EEntry 6 r.2.2.2.2.2.1.length 1, marks EInt 1 r.2.2.2.2.2.2.length (1 + 6 * (r.2.2.2.2.2.1.length : Int)), r.2.2.2.1, ()) 1 = some (1 + 6 * (r.2.2.2.2.2.1.length : Int) + 1 * (r.2.2.2.2.2.2.length : Int)) := heldKernel_ok _ _ _ _ h1 h2

theorem FnExactSysMove_law (k : DKernel) (f t : Int) (h : WfD (.cons tKernel (.cons I (.cons I .nil))) (k, f, t, ())) : laws_FnExactSysMove k f t = some true := by
  have hl : k.2.1.length ≤ 9223372036854775807 := by have := h.1.2.1.1; simp only [maxLen] at this; omega
  have hm : k.2.2.1.length ≤ 9223372036854775807 := by have := h.1.2.2.1.1; simp only [maxLen] at this; omega
  have ek : ((k.1.1, k.1.2.1, k.1.2.2.1, ()), k.2.1, k.2.2.1, k.2.2.2.1, ()) = k := rfl
  unfold laws_FnExactSysMove laws_FnExactSysMoveK
  simp only [ek]
  rw [szKernel_ok k hl hm]
  by_cases hs : k.2.1.length + k.2.2.1.length ≤ 1048576
  · have h0 : ¬ (1048576 - (k.2.1.length : Int) - (k.2.2.1.length : Int) < 0) := by omega
    have hf := sysMove_fit k f t
    have g1 : (sysMove k f t).2.2.2.2.2.1.length ≤ 1048577 := by have := hf.1; omega
    have g2 : (sysMove k f t).2.2.2.2.2.2.length ≤ 1048577 := by have := hf.2; omega
    have q1 : ¬ (1 + 6 * (k.2.1.length : Int) + 1 * (k.2.2.1.length : Int) < 0) := by omega
    have q2 : ¬ (1 + 6 * ((sysMove k f t).2.2.2.2.2.1.length : Int) + 1 * ((sysMove k f t).2.2.2.2.2.2.length : Int) < 0) := by omega
    simp only [hs, h0, if_true, B7, decide_false, cond_false, cond_true, toKernel_ok k (by omega) (by omega), ek, spec_SysMove_ok k f t (by omega) (by omega), impl_SysMove_ok k f t (by omega) (by omega), kRes_eq _ g1 g2, Bool.not_true, Bool.not_false, bne_self_eq_false, eqKernel_ok k (by omega) (by omega), kMark k (by omega) (by omega), q1, rMark _ g1 g2, rHeld _ g1 g2, q2]
  · simp [hs]

/-! ### minting -/

def liveE (d : List DEntry) (n : Int) : Bool := derV d && (rgt n 0 ((d.length : Int) - 1) && !(d.getD n.toNat e0).2.2.1)

theorem live_in {d : List DEntry} {n : Int} (h : liveE d n = true) : derV d = true ∧ 0 ≤ n ∧ n.toNat < d.length ∧ (d.getD n.toNat e0).2.2.1 = false := by
  simp only [liveE, rgt, Bool.and_eq_true, decide_eq_true_eq, Bool.not_eq_true'] at h
  exact ⟨h.1, h.2.1.1, by omega, h.2.2⟩

theorem alive_ok (d : List DEntry) (n : Int) (h : d.length ≤ 1048577) : impl_alive d n = some (liveE d n) := by
  unfold impl_alive impl_aliveK liveE
  rw [impl_DerivationValid_ok d h, wrapP _ (by omega), in_ok]
  cases derV d with
  | false => rfl
  | true =>
    show (bif rgt n 0 ((d.length : Int) - 1) then _ else _) = some (true && (rgt n 0 ((d.length : Int) - 1) && _))
    cases hr : rgt n 0 ((d.length : Int) - 1) with
    | false => rfl
    | true =>
      simp only [rgt, Bool.and_eq_true, decide_eq_true_eq] at hr
      simp only [cond_true, nnK_pos hr.1, getK_some (eget_of (show n.toNat < d.length by omega)), Bool.true_and]

theorem l5Live_ok (d : List DEntry) (n : Int) (h : d.length ≤ 1048577) : spec_l5Live d n = some (liveE d n) := by
  unfold spec_l5Live spec_l5LiveK liveE
  rw [spec_DerivationValid_ok d h, wrapP _ (by omega), l1In_ok]
  cases derV d with
  | false => rfl
  | true =>
    show (bif rgt n 0 ((d.length : Int) - 1) then _ else _) = some (true && (rgt n 0 ((d.length : Int) - 1) && _))
    cases hr : rgt n 0 ((d.length : Int) - 1) with
    | false => rfl
    | true =>
      simp only [rgt, Bool.and_eq_true, decide_eq_true_eq] at hr
      simp only [cond_true, nnK_pos hr.1, getK_some (eget_of (show n.toNat < d.length by omega)), Bool.true_and]

theorem badge_pos {c : DCap} (h : capGood c = true) : 0 ≤ c.2.2.2.1 := by
  unfold capGood rgt at h
  by_cases h0 : c.1 = 0
  · simp [h0] at h; omega
  · simp [h0] at h; omega

theorem Mint_same (c : DCap) (r b : Int) : ∃ x, spec_MintCap c r b = some x ∧ impl_MintCap c r b = some x := by
  unfold spec_MintCap spec_MintCapK impl_MintCap impl_MintCapK
  have ec : (c.1, c.2.1, c.2.2.1, c.2.2.2.1, ()) = c := rfl
  rw [ec, spec_CapValid_ok, impl_CapValid_ok]
  cases hv : capGood c with
  | false => exact ⟨_, rfl, rfl⟩
  | true =>
    have hb := badge_pos hv
    have e : (c.2.2.2.1 != (0 : Int)) = decide (c.2.2.2.1 > 0) := by
      rw [bneI]
      by_cases q : c.2.2.2.1 = 0
      · simp [q]
      · have : c.2.2.2.1 > 0 := by omega
        simp [q, this]
    simp only [B7, Bool.not_true, Bool.not_false, cond_true, spec_RightsValid, spec_RightsValidK, impl_RightsValid, impl_RightsValidK, l1In_ok, in_ok, spec_l2Badged, spec_l2BadgedK, impl_badged, impl_badgedK, e]
    generalize (decide (0 ≤ r) && decide (r ≤ 15)) = b1
    generalize (decide (0 ≤ b) && decide (b ≤ 999)) = b2
    generalize (c.1 == (0 : Int)) = b3
    generalize (c.1 == (1 : Int)) = b4
    generalize (c.1 == (7 : Int)) = b5
    generalize (c.1 == (4 : Int)) = b6
    generalize (c.1 == (5 : Int)) = b7
    generalize decide (b > 0) = b8
    generalize decide (c.2.2.2.1 > 0) = b9
    cases b1 <;> cases b2 <;> cases b3 <;> (try exact ⟨_, rfl, rfl⟩) <;> cases b4 <;> cases b5 <;> (try exact ⟨_, rfl, rfl⟩) <;> cases b6 <;> cases b7 <;> cases b8 <;> cases b9 <;> exact ⟨_, rfl, rfl⟩

theorem Derive_same (d : List DEntry) (n r b : Int) (h : d.length ≤ 1048577) : ∃ x, spec_DeriveCap d n r b = some x ∧ impl_DeriveCap d n r b = some x ∧ x.2.2.length ≤ d.length + 1 := by
  unfold spec_DeriveCap spec_DeriveCapK impl_DeriveCap impl_DeriveCapK
  rw [l5Live_ok d n h, alive_ok d n h]
  cases hv : liveE d n with
  | false => exact ⟨_, rfl, rfl, by simp⟩
  | true =>
    obtain ⟨hd, h0, h1, _⟩ := live_in hv
    have hl := derV_len hd
    obtain ⟨x, hx1, hx2⟩ := Mint_same (d.getD n.toNat e0).1 r b
    simp only [B7, Bool.not_true, cond_false, nnK_pos h0, getK_some (eget_of h1), hx1, hx2, clone_Entry_ok d h]
    rw [chk_pos (by simp only [bigRow]; omega)]
    cases hx : x.2 with
    | false => exact ⟨_, rfl, rfl, by simp⟩
    | true =>
      simp only [Bool.not_true, Bool.not_false, cond_true]
      cases ((d.length : Int) == (30 : Int)) with
      | true => exact ⟨_, rfl, rfl, by simp⟩
      | false =>
        simp only [cond_false]
        rw [chk_pos (by simp only [bigRow]; omega), chk_pos (by simp only [bigRow]; omega), clone_Entry_ok _ (by simp; omega)]
        exact ⟨_, rfl, rfl, by simp⟩

theorem SysMint_same (k : DKernel) (f t r b : Int) (h1 : k.2.1.length ≤ 1048577) (h2 : k.2.2.1.length ≤ 1048577) : ∃ x, spec_SysMint k f t r b = some x ∧ impl_SysMint k f t r b = some x ∧ kFit k x := by
  unfold spec_SysMint spec_SysMintK impl_SysMint impl_SysMintK
  have ek : ((k.1.1, k.1.2.1, k.1.2.2.1, ()), k.2.1, k.2.2.1, k.2.2.2.1, ()) = k := rfl
  rw [ek, spec_KernelValid_ok k h1 h2, impl_KernelValid_ok k h1 h2]
  cases hv : kernV k with
  | false => exact ⟨_, rfl, rfl, kFit_bad k⟩
  | true =>
    simp only [B7, Bool.not_true, cond_false, l25Copy_ok k h1 h2, copyOf_ok k h1 h2, slot_ok k _ h2, has_ok k _ h2, empty_ok k _ h2, not_neg]
    cases hf : slotIn k.2.2.1 f with
    | false => exact ⟨_, rfl, rfl, kFit_st k 1⟩
    | true =>
      obtain ⟨f0, f1⟩ := slotIn_iff.1 hf
      cases decide (k.2.2.1.getD f.toNat 0 ≥ 0) with
      | false => exact ⟨_, rfl, rfl, kFit_st k 1⟩
      | true =>
        cases ht : slotIn k.2.2.1 t with
        | false => exact ⟨_, rfl, rfl, kFit_st k 1⟩
        | true =>
          obtain ⟨t0, t1⟩ := slotIn_iff.1 ht
          cases decide (k.2.2.1.getD t.toNat 0 ≥ 0) with
          | true => exact ⟨_, rfl, rfl, kFit_st k 1⟩
          | false =>
            simp only [Bool.true_and, Bool.not_true, Bool.not_false, cond_true, cond_false, Bool.and_self]
            cases ((k.2.1.length : Int) == (30 : Int)) with
            | true => exact ⟨_, rfl, rfl, kFit_st k 2⟩
            | false =>
              obtain ⟨x, hx1, hx2, hx3⟩ := Derive_same k.2.1 (k.2.2.1.getD f.toNat 0) r b h1
              simp only [cond_false, nnK_pos f0, getK_some (iget_of f1), hx1, hx2, B7, nnK_pos t0]
              cases x.2.1 with
              | false => exact ⟨_, rfl, rfl, kFit_st k 3⟩
              | true =>
                simp only [Bool.not_true, cond_false]
                rw [chk_pos t1, getK_lt t1]
                exact ⟨_, rfl, rfl, hx3, by simp⟩

theorem FnExactSysMint_law (k : DKernel) (f t r b : Int) (h : WfD (.cons tKernel (.cons I (.cons I (.cons I (.cons I .nil))))) (k, f, t, r, b, ())) : laws_FnExactSysMint k f t r b = some true := by
  have hl : k.2.1.length ≤ 9223372036854775807 := by have := h.1.2.1.1; simp only [maxLen] at this; omega
  have hm : k.2.2.1.length ≤ 9223372036854775807 := by have := h.1.2.2.1.1; simp only [maxLen] at this; omega
  have ek : ((k.1.1, k.1.2.1, k.1.2.2.1, ()), k.2.1, k.2.2.1, k.2.2.2.1, ()) = k := rfl
  unfold laws_FnExactSysMint laws_FnExactSysMintK
  simp only [ek]
  rw [szKernel_ok k hl hm]
  by_cases hs : k.2.1.length + k.2.2.1.length ≤ 1048576
  · have h0 : ¬ (1048576 - (k.2.1.length : Int) - (k.2.2.1.length : Int) < 0) := by omega
    obtain ⟨x, hx1, hx2, hf⟩ := SysMint_same k f t r b (by omega) (by omega)
    have g1 : x.2.2.2.2.2.1.length ≤ 1048577 := by have := hf.1; omega
    have g2 : x.2.2.2.2.2.2.length ≤ 1048577 := by have := hf.2; omega
    have q1 : ¬ (1 + 6 * (k.2.1.length : Int) + 1 * (k.2.2.1.length : Int) < 0) := by omega
    have q2 : ¬ (1 + 6 * (x.2.2.2.2.2.1.length : Int) + 1 * (x.2.2.2.2.2.2.length : Int) < 0) := by omega
    simp only [hs, h0, if_true, B7, decide_false, cond_false, cond_true, toKernel_ok k (by omega) (by omega), ek, hx1, hx2, kRes_eq _ g1 g2, Bool.not_true, Bool.not_false, bne_self_eq_false, eqKernel_ok k (by omega) (by omega), kMark k (by omega) (by omega), q1, rMark _ g1 g2, rHeld _ g1 g2, q2]
  · simp [hs]


/-! ### removing -/

def remE (e : DEntry) : DEntry := (e.1, e.2.1, true, ())
def updE (n p : Int) (e : DEntry) : DEntry := bif decide (e.2.1 = n) && !e.2.2.1 then (e.1, p, e.2.2.1, ()) else e
def rmC (d : List DEntry) (n : Nat) : List DEntry := (d.set n (remE (d.getD n e0))).map (updE (n : Int) (d.getD n e0).2.1)

theorem der_parent {d : List DEntry} (h : derV d = true) {i : Nat} {v : DEntry} (hv : d[i]? = some v) : -1 ≤ v.2.1 ∧ v.2.1 ≤ (i : Int) - 1 := by
  simp only [derV, Bool.and_eq_true] at h
  have := all_zip0.1 h.1 i v hv
  simp only [entOk, rgt, Bool.and_eq_true, decide_eq_true_eq] at this
  exact this.2.2.1

theorem rmC_length (d : List DEntry) (n : Nat) : (rmC d n).length = d.length := by simp [rmC]

theorem updE_rem (n p : Int) (e : DEntry) (h : e.2.2.1 = true) : updE n p e = e := by simp [updE, h]
theorem updE_ne (n p : Int) (e : DEntry) (h : e.2.1 ≠ n) : updE n p e = e := by simp [updE, h]

theorem rmC_get {d : List DEntry} {n j : Nat} {v : DEntry} (hv : d[j]? = some v) : (rmC d n)[j]? = some (if j = n then remE v else updE (n : Int) (d.getD n e0).2.1 v) := by
  have hl := get_lt hv
  unfold rmC
  rw [List.getElem?_map]
  by_cases e : j = n
  · subst e
    rw [List.getElem?_set_self hl, if_pos rfl]
    have : d.getD j e0 = v := by simp [List.getD, hv]
    simp only [Option.map_some, this, updE_rem _ _ (remE v) rfl]
  · rw [List.getElem?_set_ne (Ne.symm e), hv, if_neg e]
    rfl

theorem spec_RemoveCap_ok (d : List DEntry) (n : Nat) (hl : liveE d (n : Int) = true) : spec_RemoveCap d (n : Int) = some (rmC d n) := by
  obtain ⟨hd, _, hn, _⟩ := live_in hl
  simp only [Int.toNat_natCast] at hn
  have hlen := derV_len hd
  unfold spec_RemoveCap spec_RemoveCapK
  rw [l5Live_ok d _ (by omega), hl]
  simp only [B7, Bool.not_true, cond_false, wrapS (show n < 4611686018427387904 by omega)]
  rw [chk_pos (by simp only [bigRow]; omega)]
  have hx0 := eget_of hn
  have := loop_list (nxt := spec_RemoveCap_l0) d (fun i s => (d, (n : Int), (i : Int), s, ())) (fun i x s => .inl (s.set i (updE (n : Int) (d.getD n e0).2.1 x))) (fun s => ((n : Int), s, ())) (fun i s => s.length = d.length ∧ ∀ j, i ≤ j → s[j]? = d[j]?)
    (fun i x s hs hx => ?_) (fun i x s s' hs hx e => ?_) (fun s hs => ?_) (d.drop (n + 1)) (n + 1) d rfl (by omega) ⟨rfl, fun _ _ => rfl⟩
  · rw [this, goL_set _ _ _ _ _ (by simp; omega)]
    simp only [B7, nnK_nat]
    have hlen2 : (d.take (n + 1) ++ (d.drop (n + 1)).map (updE (n : Int) (d.getD n e0).2.1)).length = d.length := by simp; omega
    have hget : (d.take (n + 1) ++ (d.drop (n + 1)).map (updE (n : Int) (d.getD n e0).2.1))[n]? = some (d.getD n e0) := by
      rw [List.getElem?_append_left (by simp; omega), List.getElem?_take, if_pos (by omega), hx0]
    rw [chk_pos (by rw [hlen2]; exact hn), getK_some hget]
    congr 1
    apply List.ext_getElem?
    intro j
    by_cases hj : j < d.length
    · have hv := eget_of hj
      rw [rmC_get hv]
      by_cases e : j = n
      · subst e
        rw [List.getElem?_set_self (by rw [hlen2]; exact hj), if_pos rfl]
        rfl
      · rw [List.getElem?_set_ne (Ne.symm e), if_neg e]
        rcases Nat.lt_or_ge j (n + 1) with q | q
        · rw [List.getElem?_append_left (by simp; omega), List.getElem?_take, if_pos q, hv, updE_ne]
          have := der_parent hd hv
          omega
        · rw [List.getElem?_append_right (by simp; omega), List.getElem?_map, List.getElem?_drop]
          have e2 : n + 1 + (j - (d.take (n + 1)).length) = j := by simp; omega
          rw [e2, hv]
          rfl
    · rw [List.getElem?_eq_none (by rw [List.length_set, hlen2]; omega), List.getElem?_eq_none (by rw [rmC_length]; omega)]
  · obtain ⟨hs1, hs2⟩ := hs
    have hi := get_lt hx
    have hsx : s[i]? = some x := by rw [hs2 i (Nat.le_refl _), hx]
    have hd1 : decide ((i : Int) < (s.length : Int)) = true := by simp; omega
    simp only [spec_RemoveCap_l0, spec_RemoveCap_l0K, hd1, cond_true, nnK_nat, getK_some hsx, getK_some hx0, wrapS (show i < 4611686018427387904 by omega), goTo_l, updE, beqI]
    rw [chk_pos (by omega), chk_pos (by omega), chk_pos (by omega)]
    cases decide (x.2.1 = (n : Int)) with
    | false => simp only [cond_false, Bool.false_and, set_self hsx]
    | true =>
      cases x.2.2.1 with
      | true => simp only [Bool.not_true, cond_true, cond_false, Bool.and_false, set_self hsx]
      | false => rfl
  · cases e
    refine ⟨by simpa using hs.1, fun j hj => ?_⟩
    rw [List.getElem?_set_ne (by omega)]
    exact hs.2 j (by omega)
  · have : decide ((d.length : Int) < (s.length : Int)) = false := by rw [hs.1]; simp
    simp only [spec_RemoveCap_l0, spec_RemoveCap_l0K, this, cond_false]

theorem impl_RemoveCap_ok (d : List DEntry) (n : Nat) (hl : liveE d (n : Int) = true) : impl_RemoveCap d (n : Int) = some (rmC d n) := by
  obtain ⟨hd, _, hn, _⟩ := live_in hl
  simp only [Int.toNat_natCast] at hn
  have hlen := derV_len hd
  unfold impl_RemoveCap impl_RemoveCapK
  rw [alive_ok d _ (by omega), hl]
  simp only [B7, Bool.not_true, cond_false, clone_Entry_ok d (by omega), nnK_nat]
  have hx0 := eget_of hn
  rw [chk_pos hn, getK_some hx0]
  show (loopF impl_RemoveCap_l0 (d, (n : Int), d, (d.length : Int), 0, d.set n (remE (d.getD n e0)), ())).bind _ = _
  have hl' : (d.set n (remE (d.getD n e0))).length = d.length := by simp
  have := loop_list1 (nxt := impl_RemoveCap_l0) (d.set n (remE (d.getD n e0))) (fun i s => (d, (n : Int), d, (d.length : Int), (i : Int), s, ())) (fun i x s => .inl (s.set i (updE (n : Int) (d.getD n e0).2.1 x))) (fun s => (s, ())) (fun i s => s.length = d.length ∧ ∀ j, i ≤ j → s[j]? = (d.set n (remE (d.getD n e0)))[j]?) (d.set n (remE (d.getD n e0)))
    (fun i x s hs hx => ?_) (fun i x s s' hs hx e => ?_) (fun s hs => ?_) ⟨hl', fun _ _ => rfl⟩ (st := (d, (n : Int), d, (d.length : Int), 0, d.set n (remE (d.getD n e0)), ())) rfl
  · rw [this, goL_set _ _ _ _ _ (by simp)]
    simp [rmC]
  · obtain ⟨hs1, hs2⟩ := hs
    have hi := get_lt hx
    rw [hl'] at hi
    have hsx : s[i]? = some x := by rw [hs2 i (Nat.le_refl _), hx]
    have hd1 : decide ((i : Int) < (d.length : Int)) = true := by simp; omega
    have hdi := eget_of hi
    simp only [impl_RemoveCap_l0, impl_RemoveCap_l0K, hd1, cond_true, nnK_nat, getK_some hsx, getK_some hdi, getK_some hx0, wrapS (show i < 4611686018427387904 by omega), goTo_l, beqI]
    rw [chk_pos (by omega)]
    by_cases e : i = n
    · subst e
      rw [List.getElem?_set_self hi] at hx
      obtain rfl := Option.some.inj hx
      have hp := der_parent hd hdi
      have hne : decide ((d.getD i e0).2.1 = (i : Int)) = false := decide_eq_false (by omega)
      rw [hne, updE_rem _ _ _ rfl, set_self hsx]
      rfl
    · rw [List.getElem?_set_ne (Ne.symm e), hdi] at hx
      obtain rfl := Option.some.inj hx
      unfold updE
      cases decide ((d.getD i e0).2.1 = (n : Int)) with
      | false => simp only [cond_false, Bool.false_and, set_self hsx]
      | true =>
        cases (d.getD i e0).2.2.1 with
        | true => simp only [Bool.not_true, cond_true, cond_false, Bool.and_false, set_self hsx]
        | false => rfl
  · cases e
    refine ⟨by simpa using hs.1, fun j hj => ?_⟩
    rw [List.getElem?_set_ne (by omega)]
    exact hs.2 j (by omega)
  · rw [hl']
    simp only [impl_RemoveCap_l0, impl_RemoveCap_l0K, dec_nlt, cond_false]

/-! ### places of what is gone -/

def clr (T : List DEntry) (x : Int) : Int := bif decide (x ≥ 0) && (T.getD x.toNat e0).2.2.1 then -1 else x

theorem clear_ok (b1 b2 b3 b4 : Int) (b5 : List DEntry) (xs : List Int) (b7 b8 b9 b10 : Int) (T : List DEntry) (h : xs.length ≤ 1048577) (hx : ∀ x ∈ xs, x < (T.length : Int)) :
    impl_Kernel_clear_v2 b1 b2 b3 b4 b5 xs b7 b8 b9 b10 T = some (b1, b2, b3, b4, b5, xs.map (clr T), b7, b8, b9, b10, T) := by
  unfold impl_Kernel_clear_v2 impl_Kernel_clear_v2K
  have := loop_list1 (nxt := impl_Kernel_clear_v2_l0) xs (fun i s => ((xs.length : Int), (i : Int), b1, b2, b3, b4, b5, s, b7, b8, b9, b10, T, ())) (fun i x s => .inl (s.set i (clr T x))) (fun s => (b1, b2, b3, b4, b5, s, b7, b8, b9, b10, T, ())) (fun i s => s.length = xs.length ∧ ∀ j, i ≤ j → s[j]? = xs[j]?) xs
    (fun i x s hs hx' => ?_) (fun i x s s' hs hx e => ?_) (fun s hs => ?_) ⟨rfl, fun _ _ => rfl⟩ (st := ((xs.length : Int), 0, b1, b2, b3, b4, b5, xs, b7, b8, b9, b10, T, ())) rfl
  · rw [this, goL_set _ _ _ _ _ (by simp)]
    simp
  · obtain ⟨hs1, hs2⟩ := hs
    have hi := get_lt hx'
    have hsx : s[i]? = some x := by rw [hs2 i (Nat.le_refl _), hx']
    have hb := hx x (List.mem_of_getElem? hx')
    simp only [impl_Kernel_clear_v2_l0, impl_Kernel_clear_v2_l0K, dec_lt hx', cond_true, nnK_nat, getK_some hsx, wrapS (show i < 4611686018427387904 by omega), goTo_l, clr]
    rw [chk_pos (by omega)]
    by_cases hp : x ≥ 0
    · simp only [hp, decide_true, cond_true, nnK_pos hp, getK_some (eget_of (show x.toNat < T.length by omega)), Bool.true_and]
      rw [chk_pos (by omega)]
      cases (T.getD x.toNat e0).2.2.1 with
      | false => simp only [cond_false, set_self hsx]
      | true =>
        simp only [cond_true]
        rw [chk_pos (by omega)]
    · simp only [hp, decide_false, cond_false, Bool.false_and, set_self hsx]
  · cases e
    refine ⟨by simpa using hs.1, fun j hj => ?_⟩
    rw [List.getElem?_set_ne (by omega)]
    exact hs.2 j (by omega)
  · simp only [impl_Kernel_clear_v2_l0, impl_Kernel_clear_v2_l0K, dec_nlt, cond_false]

theorem place_live {k : DKernel} (hv : kernV k = true) {n : Int} (hn : n ∈ k.2.2.1) (h0 : 0 ≤ n) : liveE k.2.1 n = true ∧ n.toNat < k.2.1.length := by
  obtain ⟨_, hd, _, _, hk, hlt⟩ := kernV_parts hv
  have h1 := hlt n hn
  have hl : n.toNat < k.2.1.length := by omega
  have h2 := hk n.toNat _ (eget_of hl)
  simp only [knOk, Bool.and_eq_true, Bool.not_eq_true', decide_eq_false_iff_not] at h2
  have hh : hasI k.2.2.1 ((n.toNat : Nat) : Int) = true := List.any_eq_true.2 ⟨n, hn, by simp; omega⟩
  rw [hh] at h2
  refine ⟨?_, hl⟩
  have h3 : (k.2.1.getD n.toNat e0).2.2.1 = false := by
    cases hr : (k.2.1.getD n.toNat e0).2.2.1 with
    | false => rfl
    | true => rw [hr] at h2; exact absurd rfl h2.1
  have hr : rgt n 0 ((k.2.1.length : Int) - 1) = true := by simp [rgt]; omega
  unfold liveE
  rw [hd, hr, h3]
  rfl

theorem updE_flag (n p : Int) (e : DEntry) : (updE n p e).2.2.1 = e.2.2.1 := by
  unfold updE
  cases (decide (e.2.1 = n) && !e.2.2.1) <;> rfl

theorem clr_rm {k : DKernel} (hv : kernV k = true) {s : Nat} {n : Int} (hs : k.2.2.1[s]? = some n) (h0 : 0 ≤ n) : k.2.2.1.map (clr (rmC k.2.1 n.toNat)) = k.2.2.1.set s (-1) := by
  obtain ⟨_, _, hp, _⟩ := kernV_parts hv
  have hflag : ∀ {x : Int}, x ∈ k.2.2.1 → 0 ≤ x → ((rmC k.2.1 n.toNat).getD x.toNat e0).2.2.1 = decide (x = n) := by
    intro x hx hx0
    obtain ⟨hl, hlt⟩ := place_live hv hx hx0
    have hg := rmC_get (n := n.toNat) (eget_of hlt)
    have hr := (live_in hl).2.2.2
    rw [List.getD, hg]
    simp only [Option.getD_some]
    by_cases e : x = n
    · subst e; simp [remE]
    · have : ¬ x.toNat = n.toNat := by omega
      rw [if_neg this, updE_flag, hr]
      simp [e]
  apply List.ext_getElem?
  intro j
  rw [List.getElem?_map]
  by_cases hj : j < k.2.2.1.length
  · have hx := iget_of hj
    rw [hx]
    simp only [Option.map_some]
    have hm := List.mem_of_getElem? hx
    by_cases e : s = j
    · subst e
      rw [List.getElem?_set_self hj]
      rw [hs] at hx
      rw [← Option.some.inj hx]
      have hn := List.mem_of_getElem? hs
      unfold clr
      rw [hflag hn h0]
      simp [h0]
    · rw [List.getElem?_set_ne e, hx]
      congr 1
      by_cases hx0 : 0 ≤ k.2.2.1.getD j 0
      · have hne : k.2.2.1.getD j 0 ≠ n := fun q => e (pl_inj hp hs (q ▸ hx) h0)
        unfold clr
        rw [hflag hm hx0, decide_eq_false hne, Bool.and_false, cond_false]
      · unfold clr
        rw [decide_eq_false (show ¬ k.2.2.1.getD j 0 ≥ 0 from hx0), Bool.false_and, cond_false]
  · rw [List.getElem?_eq_none (by omega), List.getElem?_eq_none (by simp; omega)]
    rfl

theorem SysDelete_same (k : DKernel) (s : Int) (h1 : k.2.1.length ≤ 1048577) (h2 : k.2.2.1.length ≤ 1048577) : ∃ x, spec_SysDelete k s = some x ∧ impl_SysDelete k s = some x ∧ kFit k x := by
  first
    | unfold spec_SysDelete spec_SysDeleteK impl_SysDelete impl_SysDeleteK impl_removing impl_removingK
    | unfold spec_SysDelete spec_SysDeleteK impl_SysDelete impl_SysDeleteK impl_removing_v2 impl_removing_v2K
  have ek : ((k.1.1, k.1.2.1, k.1.2.2.1, ()), k.2.1, k.2.2.1, k.2.2.2.1, ()) = k := rfl
  rw [ek, spec_KernelValid_ok k h1 h2, impl_KernelValid_ok k h1 h2]
  cases hv : kernV k with
  | false => exact ⟨_, rfl, rfl, kFit_bad k⟩
  | true =>
    simp only [B7, Bool.not_true, cond_false, l25Copy_ok k h1 h2, copyOf_ok k h1 h2, slot_ok k _ h2, has_ok k _ h2]
    cases hf : slotIn k.2.2.1 s with
    | false => exact ⟨_, rfl, rfl, kFit_st k 1⟩
    | true =>
      obtain ⟨f0, f1⟩ := slotIn_iff.1 hf
      by_cases hp : k.2.2.1.getD s.toNat 0 ≥ 0
      · have hx := iget_of f1
        obtain ⟨hl, hlt⟩ := place_live hv (List.mem_of_getElem? hx) hp
        have en : ((k.2.2.1.getD s.toNat 0).toNat : Int) = k.2.2.1.getD s.toNat 0 := by omega
        have r1 := spec_RemoveCap_ok k.2.1 (k.2.2.1.getD s.toNat 0).toNat (by rw [en]; exact hl)
        have r2 := impl_RemoveCap_ok k.2.1 (k.2.2.1.getD s.toNat 0).toNat (by rw [en]; exact hl)
        rw [en] at r1 r2
        simp only [hp, decide_true, Bool.and_self, Bool.not_true, cond_false, nnK_pos f0, getK_some hx, r1, r2, B7]
        rw [clear_ok _ _ _ _ _ _ _ _ _ _ _ h2 (by rw [rmC_length]; exact (kernV_parts hv).2.2.2.2.2), chk_pos f1]
        simp only [B7, clr_rm hv hx hp]
        exact ⟨_, rfl, rfl, by simp [rmC_length], by simp⟩
      · simp only [hp, decide_false, Bool.and_false, Bool.not_false, cond_true]
        exact ⟨_, rfl, rfl, kFit_st k 1⟩

theorem FnExactSysDelete_law (k : DKernel) (s : Int) (h : WfD (.cons tKernel (.cons I .nil)) (k, s, ())) : laws_FnExactSysDelete k s = some true := by
  have hl : k.2.1.length ≤ 9223372036854775807 := by have := h.1.2.1.1; simp only [maxLen] at this; omega
  have hm : k.2.2.1.length ≤ 9223372036854775807 := by have := h.1.2.2.1.1; simp only [maxLen] at this; omega
  have ek : ((k.1.1, k.1.2.1, k.1.2.2.1, ()), k.2.1, k.2.2.1, k.2.2.2.1, ()) = k := rfl
  unfold laws_FnExactSysDelete laws_FnExactSysDeleteK
  simp only [ek]
  rw [szKernel_ok k hl hm]
  by_cases hs : k.2.1.length + k.2.2.1.length ≤ 1048576
  · have h0 : ¬ (1048576 - (k.2.1.length : Int) - (k.2.2.1.length : Int) < 0) := by omega
    obtain ⟨x, hx1, hx2, hf⟩ := SysDelete_same k s (by omega) (by omega)
    have g1 : x.2.2.2.2.2.1.length ≤ 1048577 := by have := hf.1; omega
    have g2 : x.2.2.2.2.2.2.length ≤ 1048577 := by have := hf.2; omega
    have q1 : ¬ (1 + 6 * (k.2.1.length : Int) + 1 * (k.2.2.1.length : Int) < 0) := by omega
    have q2 : ¬ (1 + 6 * (x.2.2.2.2.2.1.length : Int) + 1 * (x.2.2.2.2.2.2.length : Int) < 0) := by omega
    simp only [hs, h0, if_true, B7, decide_false, cond_false, cond_true, toKernel_ok k (by omega) (by omega), ek, hx1, hx2, kRes_eq _ g1 g2, Bool.not_true, Bool.not_false, bne_self_eq_false, eqKernel_ok k (by omega) (by omega), kMark k (by omega) (by omega), q1, rMark _ g1 g2, rHeld _ g1 g2, q2]
  · simp [hs]

end Go.Ev
