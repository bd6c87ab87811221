/-
  Revoking.
-/
import Derived.Test.YtlogfpbcogihkaaLaw3
namespace Go.Ev
set_option linter.unusedVariables false
set_option linter.unusedSimpArgs false
set_option maxRecDepth 100000
set_option synthInstance.maxSize 2000
set_option synthInstance.maxHeartbeats 400000

/-! ### revoking -/

def gone (d : List DEntry) (i : Nat) : Bool := (d.getD i e0).2.2.1
def par (d : List DEntry) (i : Nat) : Int := (d.getD i e0).2.1
/-- does entry i come from entry n, over entries that are there? -/
def desF (d : List DEntry) (n : Nat) : Nat → Nat → Bool
  | 0, _ => false
  | f + 1, i => !gone d i && (decide (par d i = (n : Int)) || (decide (par d i > (n : Int)) && desF d n f (par d i).toNat))
def des (d : List DEntry) (n i : Nat) : Bool := desF d n (i + 1) i

theorem par_lt {d : List DEntry} (h : derV d = true) {i : Nat} (hi : i < d.length) : -1 ≤ par d i ∧ par d i ≤ (i : Int) - 1 := der_parent h (eget_of hi)

theorem par_live {d : List DEntry} (h : derV d = true) {i : Nat} (hi : i < d.length) (hg : gone d i = false) (hp : 0 ≤ par d i) : gone d (par d i).toNat = false := by
  simp only [derV, Bool.and_eq_true] at h
  have := all_zip0.1 h.1 i _ (eget_of hi)
  simp only [entOk, Bool.and_eq_true, Bool.or_eq_true, Bool.not_eq_true', decide_eq_false_iff_not] at this
  rcases this.2.2.2 with (q | q) | q
  · unfold gone at hg; rw [hg] at q; cases q
  · exact absurd hp q
  · exact q.1

theorem desF_fuel {d : List DEntry} {n : Nat} (h : derV d = true) : ∀ (f g i : Nat), i < f → i < g → i < d.length → desF d n f i = desF d n g i
  | 0, _, _, hf, _, _ => by omega
  | _ + 1, 0, _, _, hg, _ => by omega
  | f + 1, g + 1, i, hf, hg, hi => by
    simp only [desF]
    have hp := par_lt h hi
    by_cases q : par d i > (n : Int)
    · rw [desF_fuel h f g (par d i).toNat (by omega) (by omega) (by omega)]
    · simp [q]

theorem des_eq {d : List DEntry} {n : Nat} (h : derV d = true) {i : Nat} (hi : i < d.length) : des d n i = (!gone d i && (decide (par d i = (n : Int)) || (decide (par d i > (n : Int)) && des d n (par d i).toNat))) := by
  have hp := par_lt h hi
  show desF d n (i + 1) i = _
  simp only [desF]
  by_cases q : par d i > (n : Int)
  · rw [show des d n (par d i).toNat = desF d n i (par d i).toNat from desF_fuel h _ _ _ (by omega) (by omega) (by omega)]
  · simp [q]

theorem below_loop {d : List DEntry} {n : Nat} (h : derV d = true) (hl : d.length ≤ 1048577) : ∀ (f i : Nat), i < f → i < d.length → gone d i = false → ∃ r, loopF spec_l5Below_l0 (d, par d i, (n : Int), ()) = some (r, (n : Int), ()) ∧ (r == (n : Int)) = des d n i := by
  intro f
  induction f with
  | zero => intro i hf; omega
  | succ f ih =>
    intro i hf hi hg
    have hp := par_lt h hi
    rw [des_eq h hi, hg]
    by_cases q : par d i > (n : Int)
    · have hlt : (par d i).toNat < d.length := by omega
      obtain ⟨r, hr1, hr2⟩ := ih (par d i).toNat (by omega) hlt (par_live h hi hg (by omega))
      refine ⟨r, ?_, ?_⟩
      · have hs : spec_l5Below_l0 (d, par d i, (n : Int), ()) = some (.inl (d, par d (par d i).toNat, (n : Int), ())) := by
          simp only [spec_l5Below_l0, spec_l5Below_l0K, q, decide_true, cond_true, nnK_pos (show 0 ≤ par d i by omega), getK_some (eget_of hlt)]
          rfl
        rw [loopF_inl hs, hr1]
      · rw [hr2]
        have : decide (par d i = (n : Int)) = false := decide_eq_false (by omega)
        simp [q, this]
    · refine ⟨par d i, loopF_inr ?_, ?_⟩
      · simp only [spec_l5Below_l0, spec_l5Below_l0K, decide_eq_false q, cond_false]
      · rw [beqI]
        simp [q]

theorem l5Below_ok {d : List DEntry} {n i : Nat} (h : derV d = true) (hi : i < d.length) : spec_l5Below d (i : Int) (n : Int) = some (des d n i) := by
  have hl := derV_len h
  unfold spec_l5Below spec_l5BelowK
  simp only [nnK_nat, getK_some (eget_of hi)]
  show (bif gone d i then some false else (loopF spec_l5Below_l0 (d, par d i, (n : Int), ())).bind _) = _
  cases hg : gone d i with
  | true =>
    rw [des_eq h hi, hg]
    rfl
  | false =>
    obtain ⟨r, hr1, hr2⟩ := below_loop (n := n) h (by omega) (i + 1) i (by omega) hi hg
    rw [cond_false, hr1, ← hr2]
    rfl

/-- the list of those that come from n -/
def desL (d : List DEntry) (n : Nat) : List Int := goL (fun i (_ : DEntry) s => (.inl (bif des d n i then s ++ [(i : Int)] else s) : List Int ⊕ List Int)) (fun s => s) (d.drop (n + 1)) (n + 1) []

theorem goL_fin {α S τ υ : Type} (step : Nat → α → S → S) (fin : S → τ) (g : τ → υ) : ∀ (r : List α) (i : Nat) (s : S), goL (fun i x s => (.inl (step i x s) : S ⊕ υ)) (fun s => g (fin s)) r i s = g (goL (fun i x s => (.inl (step i x s) : S ⊕ τ)) fin r i s)
  | [], _, _ => rfl
  | x :: r, i, s => by simp only [goL]; exact goL_fin step fin g r (i + 1) _

theorem goL_pair {α : Type} (c : Nat → Bool) : ∀ (r : List α) (i : Nat) (m : List Bool) (s : List Int),
    goL (fun i (_ : α) (p : List Bool × List Int) => (.inl (bif c i then (p.1.set i true, p.2 ++ [(i : Int)]) else p) : (List Bool × List Int) ⊕ (List Int × Unit))) (fun p => (p.2, ())) r i (m, s) =
      (goL (fun i (_ : α) s => (.inl (bif c i then s ++ [(i : Int)] else s) : List Int ⊕ List Int)) (fun s => s) r i s, ())
  | [], _, _, _ => rfl
  | x :: r, i, m, s => by
    simp only [goL]
    cases c i with
    | true => exact goL_pair c r (i + 1) _ _
    | false => exact goL_pair c r (i + 1) _ _

theorem Descendants_ok {d : List DEntry} {n : Nat} (hl : liveE d (n : Int) = true) : spec_Descendants d (n : Int) = some (desL d n) := by
  obtain ⟨hd, _, hn, _⟩ := live_in hl
  simp only [Int.toNat_natCast] at hn
  have hlen := derV_len hd
  unfold spec_Descendants spec_DescendantsK
  have := loop_list (nxt := spec_Descendants_l0) d (fun i s => (d, (n : Int), (i : Int), s, ())) (fun i _ s => .inl (bif des d n i then s ++ [(i : Int)] else s)) (fun s => (s, ())) (fun i s => s.length ≤ i)
    (fun i x s hs hx => ?_) (fun i x s s' hs hx e => ?_) (fun s _ => ?_) (d.drop (n + 1)) (n + 1) [] rfl (by omega) (by simp)
  · rw [wrapS (by omega)]
    show (loopF spec_Descendants_l0 (d, (n : Int), ((n + 1 : Nat) : Int), [], ())).bind _ = _
    rw [this, goL_fin (fun i (_ : DEntry) s => bif des d n i then s ++ [(i : Int)] else s) (fun s => s) (fun s => (s, ()))]
    rfl
  · have hi := get_lt hx
    simp only [spec_Descendants_l0, spec_Descendants_l0K, dec_lt hx, cond_true, l5Live_ok d _ (by omega), hl, B7, l5Below_ok hd hi, wrapS (show i < 4611686018427387904 by omega), goTo_l]
    cases des d n i with
    | false => rfl
    | true =>
      simp only [cond_true]
      rw [chk_pos (by simp only [bigRow]; omega)]
  · cases e
    cases des d n i <;> simp <;> omega
  · simp only [spec_Descendants_l0, spec_Descendants_l0K, dec_nlt, cond_false]

theorem descendants_ok {d : List DEntry} {n : Nat} (hl : liveE d (n : Int) = true) : impl_descendants d (n : Int) = some (desL d n) := by
  obtain ⟨hd, _, hn, _⟩ := live_in hl
  simp only [Int.toNat_natCast] at hn
  have hlen := derV_len hd
  unfold impl_descendants impl_descendantsK
  have := loop_list (nxt := impl_descendants_l0) d (fun i (p : List Bool × List Int) => (d, (i : Int), p.1, p.2, ())) (fun i _ p => .inl (bif des d n i then (p.1.set i true, p.2 ++ [(i : Int)]) else p)) (fun p => (p.2, ()))
    (fun i p => p.2.length ≤ i ∧ p.1.length = d.length ∧ n < i ∧ ∀ j, j < d.length → p.1.getD j false = (decide (j = n) || (decide (n < j ∧ j < i) && des d n j)))
    (fun i x p hs hx => ?_) (fun i x p s' hs hx e => ?_) (fun s _ => ?_) (d.drop (n + 1)) (n + 1) ((List.replicate d.length false).set n true, []) rfl (by omega) ⟨by simp, by simp, by omega, fun j hj => ?_⟩
  · rw [chk_pos (by simp only [bigRow]; omega), nnK_nat, chk_pos (by simpa using hn), getK_lt (by simpa using hn), wrapS (by omega)]
    show (loopF impl_descendants_l0 (d, ((n + 1 : Nat) : Int), (List.replicate d.length false).set n true, [], ())).bind _ = _
    rw [this, goL_pair (des d n)]
    simp only [B7, Clip_int_ok]
    rfl
  · obtain ⟨h1, h2, h3, h4⟩ := hs
    have hi := get_lt hx
    have hp := par_lt hd hi
    have hxg : d.getD i e0 = x := by simp [List.getD, hx]
    have hgx : x.2.2.1 = gone d i := by unfold gone; rw [hxg]
    have hpx : x.2.1 = par d i := by unfold par; rw [hxg]
    simp only [impl_descendants_l0, impl_descendants_l0K, dec_lt hx, cond_true, nnK_nat, getK_some hx, wrapS (show i < 4611686018427387904 by omega), goTo_l, hgx, hpx]
    rw [des_eq hd hi]
    cases gone d i with
    | true => rfl
    | false =>
      by_cases q : par d i ≥ 0
      · have hlt : (par d i).toNat < d.length := by omega
        have hm : p.1[(par d i).toNat]? = some (p.1.getD (par d i).toNat false) := by simp [List.getD, show (par d i).toNat < p.1.length by omega]
        have hv := h4 (par d i).toNat hlt
        have e1 : decide ((par d i).toNat = n) = decide (par d i = (n : Int)) := by rw [Bool.eq_iff_iff, decide_eq_true_iff, decide_eq_true_iff]; omega
        have e2 : decide (n < (par d i).toNat ∧ (par d i).toNat < i) = decide (par d i > (n : Int)) := by rw [Bool.eq_iff_iff, decide_eq_true_iff, decide_eq_true_iff]; omega
        rw [e1, e2] at hv
        simp only [q, decide_true, Bool.not_false, cond_true, nnK_pos q, getK_some hm, hv, Bool.true_and]
        rw [chk_pos (by omega)]
        cases (decide (par d i = (n : Int)) || (decide (par d i > (n : Int)) && des d n (par d i).toNat)) with
        | false => rfl
        | true =>
          simp only [cond_true]
          rw [chk_pos (by omega), getK_lt (by omega), chk_pos (by simp only [bigRow]; omega)]
      · have e1 : decide (par d i = (n : Int)) = false := decide_eq_false (by omega)
        have e2 : decide (par d i > (n : Int)) = false := decide_eq_false (by omega)
        simp only [decide_eq_false q, Bool.not_false, cond_true, cond_false, e1, e2, Bool.false_and, Bool.or_false, Bool.and_false]
  · obtain ⟨h1, h2, h3, h4⟩ := hs
    have hi := get_lt hx
    cases e
    refine ⟨?_, ?_, by omega, fun j hj => ?_⟩
    · cases des d n i <;> simp <;> omega
    · cases des d n i <;> simp [h2]
    · have hv := h4 j hj
      by_cases e : j = i
      · subst e
        have en : decide (j = n) = false := decide_eq_false (by omega)
        have e3 : decide (n < j ∧ j < j + 1) = true := decide_eq_true (by omega)
        have e4 : decide (n < j ∧ j < j) = false := decide_eq_false (by omega)
        rw [en, e3]
        rw [en, e4] at hv
        cases hdd : des d n j with
        | true => simp [List.getD, show j < p.1.length by omega]
        | false => simpa using hv
      · have e3 : decide (n < j ∧ j < i + 1) = decide (n < j ∧ j < i) := by rw [Bool.eq_iff_iff, decide_eq_true_iff, decide_eq_true_iff]; omega
        rw [e3, ← hv]
        cases des d n i with
        | true => simp [List.getD, List.getElem?_set_ne (Ne.symm e)]
        | false => rfl
  · simp only [impl_descendants_l0, impl_descendants_l0K, dec_nlt, cond_false]
  · have e4 : decide (n < j ∧ j < n + 1) = false := decide_eq_false (by omega)
    rw [e4, Bool.false_and, Bool.or_false]
    by_cases e : j = n
    · subst e
      simp [List.getD, hj]
    · have : ((List.replicate d.length false).set n true)[j]? = some false := by rw [List.getElem?_set_ne (Ne.symm e)]; simp [hj]
      rw [List.getD, this, decide_eq_false e]
      rfl

theorem desL_in {d : List DEntry} {n : Nat} : ∀ v ∈ desL d n, 0 ≤ v ∧ v.toNat < d.length := by
  have : ∀ (r : List DEntry) (i : Nat) (s : List Int), i + r.length ≤ d.length → (∀ v ∈ s, 0 ≤ v ∧ v.toNat < d.length) → ∀ v ∈ goL (fun i (_ : DEntry) s => (.inl (bif des d n i then s ++ [(i : Int)] else s) : List Int ⊕ List Int)) (fun s => s) r i s, 0 ≤ v ∧ v.toNat < d.length := by
    intro r
    induction r with
    | nil => intro i s _ hs; exact hs
    | cons x r ih =>
      intro i s hi hs
      simp only [List.length_cons] at hi
      simp only [goL]
      refine ih (i + 1) _ (by omega) fun v hv => ?_
      cases hd : des d n i with
      | false => rw [hd] at hv; exact hs v hv
      | true =>
        rw [hd] at hv
        simp only [cond_true, List.mem_append, List.mem_singleton] at hv
        rcases hv with hv | rfl
        · exact hs v hv
        · exact ⟨by omega, by omega⟩
  unfold desL
  by_cases h : n + 1 ≤ d.length
  · exact this _ _ _ (by simp; omega) (by simp)
  · rw [List.drop_of_length_le (by omega)]
    simp [goL]

def remL (d : List DEntry) (l : List Int) : List DEntry := l.foldl (fun s v => s.set v.toNat (remE (s.getD v.toNat e0))) d

theorem remL_length : ∀ (l : List Int) (d : List DEntry), (remL d l).length = d.length
  | [], _ => rfl
  | v :: l, d => by
    show (remL (d.set v.toNat (remE (d.getD v.toNat e0))) l).length = _
    rw [remL_length l]; simp

theorem removed_ok (d : List DEntry) (l : List Int) (hd : d.length ≤ 1048577) (hll : l.length ≤ 1048577) (hl : ∀ v ∈ l, 0 ≤ v ∧ v.toNat < d.length) : impl_removed d l = some (remL d l) := by
  unfold impl_removed impl_removedK
  rw [clone_Entry_ok d hd]
  have := loop_list1 (nxt := impl_removed_l0) l (fun i s => (l, (l.length : Int), (i : Int), s, ())) (fun _ v s => .inl (s.set v.toNat (remE (s.getD v.toNat e0)))) (fun s => (s, ())) (fun _ s => s.length = d.length) d
    (fun i v s hs hx => ?_) (fun i v s s' hs hx e => ?_) (fun s _ => ?_) rfl (st := (l, (l.length : Int), 0, d, ())) rfl
  · simp only [B7]
    rw [this, goL_fold (fun (s : List DEntry) (v : Int) => s.set v.toNat (remE (s.getD v.toNat e0)))]
    rfl
  · have hi := get_lt hx
    obtain ⟨h0, h1⟩ := hl v (List.mem_of_getElem? hx)
    simp only [impl_removed_l0, impl_removed_l0K, dec_lt hx, cond_true, nnK_nat, getK_some hx, nnK_pos h0, wrapS (show i < 4611686018427387904 by omega), goTo_l]
    rw [chk_pos (by omega), getK_some (eget_of (show v.toNat < s.length by omega))]
    rfl
  · cases e; simpa using hs
  · simp only [impl_removed_l0, impl_removed_l0K, dec_nlt, cond_false]

theorem revoke_loop (d : List DEntry) (l : List Int) (hll : l.length ≤ 1048577) (hl : ∀ v ∈ l, 0 ≤ v ∧ v.toNat < d.length) : loopF spec_RevokeCap_l0 (l, 0, d, ()) = some (remL d l, ()) := by
  have := loop_list1 (nxt := spec_RevokeCap_l0) l (fun i s => (l, (i : Int), s, ())) (fun _ v s => .inl (s.set v.toNat (remE (s.getD v.toNat e0)))) (fun s => (s, ())) (fun _ s => s.length = d.length) d
    (fun i v s hs hx => ?_) (fun i v s s' hs hx e => ?_) (fun s _ => ?_) rfl (st := (l, 0, d, ())) rfl
  · rw [this, goL_fold (fun (s : List DEntry) (v : Int) => s.set v.toNat (remE (s.getD v.toNat e0)))]
    rfl
  · have hi := get_lt hx
    obtain ⟨h0, h1⟩ := hl v (List.mem_of_getElem? hx)
    simp only [spec_RevokeCap_l0, spec_RevokeCap_l0K, dec_lt hx, cond_true, nnK_nat, getK_some hx, nnK_pos h0, wrapS (show i < 4611686018427387904 by omega), goTo_l]
    rw [chk_pos (by omega), getK_some (eget_of (show v.toNat < s.length by omega))]
    rfl
  · cases e; simpa using hs
  · simp only [spec_RevokeCap_l0, spec_RevokeCap_l0K, dec_nlt, cond_false]

theorem desL_len (d : List DEntry) (n : Nat) : (desL d n).length ≤ d.length := by
  have : ∀ (r : List DEntry) (i : Nat) (s : List Int), (goL (fun i (_ : DEntry) s => (.inl (bif des d n i then s ++ [(i : Int)] else s) : List Int ⊕ List Int)) (fun s => s) r i s).length ≤ s.length + r.length := by
    intro r
    induction r with
    | nil => intro i s; simp [goL]
    | cons x r ih =>
      intro i s
      simp only [goL]
      have := ih (i + 1) (bif des d n i then s ++ [(i : Int)] else s)
      have h2 : (bif des d n i then s ++ [(i : Int)] else s).length ≤ s.length + 1 := by cases des d n i <;> simp
      simp only [List.length_cons]
      omega
  unfold desL
  have := this (d.drop (n + 1)) (n + 1) []
  simp at this
  omega

theorem Revoke_same (d : List DEntry) (n : Nat) (hl : liveE d (n : Int) = true) : spec_RevokeCap d (n : Int) = some (remL d (desL d n)) ∧ impl_RevokeCap d (n : Int) = some (remL d (desL d n)) := by
  obtain ⟨hd, _, hn, _⟩ := live_in hl
  have hlen := derV_len hd
  have hdl := desL_len d n
  constructor
  · unfold spec_RevokeCap spec_RevokeCapK
    rw [l5Live_ok d _ (by omega), hl, Descendants_ok hl]
    simp only [B7, Bool.not_true, cond_false]
    rw [chk_pos (by simp only [bigRow]; omega), revoke_loop d _ (by omega) desL_in]
    rfl
  · unfold impl_RevokeCap impl_RevokeCapK
    rw [alive_ok d _ (by omega), hl, descendants_ok hl]
    simp only [B7, Bool.not_true, cond_false, removed_ok d (desL d n) (by omega) (by omega) desL_in]

theorem spec_clear_ok (b1 b2 b3 b4 b5 b7 b8 b9 : Int) (xs : List Int) (T : List DEntry) (h : xs.length ≤ 1048577) (hx : ∀ x ∈ xs, x < (T.length : Int)) :
    loopF spec_SysRevoke_l0 (0, b1, b2, b3, b4, b5, b7, b8, b9, T, xs, ()) = some (b1, b2, b3, b4, b5, b7, b8, b9, T, xs.map (clr T), ()) := by
  have := loop_list1 (nxt := spec_SysRevoke_l0) xs (fun i s => ((i : Int), b1, b2, b3, b4, b5, b7, b8, b9, T, s, ())) (fun i x s => .inl (s.set i (clr T x))) (fun s => (b1, b2, b3, b4, b5, b7, b8, b9, T, s, ())) (fun i s => s.length = xs.length ∧ ∀ j, i ≤ j → s[j]? = xs[j]?) xs
    (fun i x s hs hx' => ?_) (fun i x s s' hs hx e => ?_) (fun s hs => ?_) ⟨rfl, fun _ _ => rfl⟩ (st := (0, b1, b2, b3, b4, b5, b7, b8, b9, T, xs, ())) rfl
  · rw [this, goL_set _ _ _ _ _ (by simp)]
    simp
  · obtain ⟨hs1, hs2⟩ := hs
    have hi := get_lt hx'
    have hsx : s[i]? = some x := by rw [hs2 i (Nat.le_refl _), hx']
    have hb := hx x (List.mem_of_getElem? hx')
    have hd1 : decide ((i : Int) < (s.length : Int)) = true := by simp; omega
    simp only [spec_SysRevoke_l0, spec_SysRevoke_l0K, hd1, cond_true, nnK_nat, getK_some hsx, wrapS (show i < 4611686018427387904 by omega), goTo_l, clr]
    rw [chk_pos (by omega)]
    by_cases hp : x ≥ 0
    · simp only [hp, decide_true, cond_true, nnK_pos hp, getK_some (eget_of (show x.toNat < T.length by omega)), Bool.true_and]
      rw [chk_pos (by omega), chk_pos (by omega)]
      cases (T.getD x.toNat e0).2.2.1 with
      | false => simp only [cond_false, set_self hsx]
      | true =>
        simp only [cond_true]
        rw [chk_pos (by omega)]
    · simp only [hp, decide_false, cond_false, Bool.false_and, set_self hsx]
  · cases e
    refine ⟨by simpa using hs.1, fun j hj => ?_⟩
    rw [List.getElem?_set_ne (by omega)]
    exact hs.2 j (by omega)
  · have : decide ((xs.length : Int) < (s.length : Int)) = false := by rw [hs.1]; simp
    simp only [spec_SysRevoke_l0, spec_SysRevoke_l0K, this, cond_false]

theorem SysRevoke_same (k : DKernel) (s : Int) (h1 : k.2.1.length ≤ 1048577) (h2 : k.2.2.1.length ≤ 1048577) : ∃ x, spec_SysRevoke k s = some x ∧ impl_SysRevoke k s = some x ∧ kFit k x := by
  first
    | unfold spec_SysRevoke spec_SysRevokeK impl_SysRevoke impl_SysRevokeK impl_removing impl_removingK
    | unfold spec_SysRevoke spec_SysRevokeK impl_SysRevoke impl_SysRevokeK impl_removing_v2 impl_removing_v2K
  have ek : ((k.1.1, k.1.2.1, k.1.2.2.1, ()), k.2.1, k.2.2.1, k.2.2.2.1, ()) = k := rfl
  rw [ek, spec_KernelValid_ok k h1 h2, impl_KernelValid_ok k h1 h2]
  cases hv : kernV k with
  | false => exact ⟨_, rfl, rfl, kFit_bad k⟩
  | true =>
    simp only [B7, Bool.not_true, cond_false, l25Copy_ok k h1 h2, copyOf_ok k h1 h2, slot_ok k _ h2, has_ok k _ h2]
    cases hf : slotIn k.2.2.1 s with
    | false => exact ⟨_, rfl, rfl, kFit_st k 1⟩
    | true =>
      obtain ⟨f0, f1⟩ := slotIn_iff.1 hf
      by_cases hp : k.2.2.1.getD s.toNat 0 ≥ 0
      · have hx := iget_of f1
        obtain ⟨hl, hlt⟩ := place_live hv (List.mem_of_getElem? hx) hp
        have en : ((k.2.2.1.getD s.toNat 0).toNat : Int) = k.2.2.1.getD s.toNat 0 := by omega
        obtain ⟨r1, r2⟩ := Revoke_same k.2.1 (k.2.2.1.getD s.toNat 0).toNat (by rw [en]; exact hl)
        rw [en] at r1 r2
        have hb : ∀ x ∈ k.2.2.1, x < ((remL k.2.1 (desL k.2.1 (k.2.2.1.getD s.toNat 0).toNat)).length : Int) := by rw [remL_length]; exact (kernV_parts hv).2.2.2.2.2
        simp only [hp, decide_true, Bool.and_self, Bool.not_true, cond_false, nnK_pos f0, getK_some hx, r1, r2, B7]
        rw [clear_ok _ _ _ _ _ _ _ _ _ _ _ h2 hb, spec_clear_ok _ _ _ _ _ _ _ _ _ _ h2 hb]
        exact ⟨_, rfl, rfl, by simp [remL_length], by simp⟩
      · simp only [hp, decide_false, Bool.and_false, Bool.not_false, cond_true]
        exact ⟨_, rfl, rfl, kFit_st k 1⟩

theorem FnExactSysRevoke_law (k : DKernel) (s : Int) (h : WfD (.cons tKernel (.cons I .nil)) (k, s, ())) : laws_FnExactSysRevoke k s = some true := by
  have hl : k.2.1.length ≤ 9223372036854775807 := by have := h.1.2.1.1; simp only [maxLen] at this; omega
  have hm : k.2.2.1.length ≤ 9223372036854775807 := by have := h.1.2.2.1.1; simp only [maxLen] at this; omega
  have ek : ((k.1.1, k.1.2.1, k.1.2.2.1, ()), k.2.1, k.2.2.1, k.2.2.2.1, ()) = k := rfl
  unfold laws_FnExactSysRevoke laws_FnExactSysRevokeK
  simp only [ek]
  rw [szKernel_ok k hl hm]
  by_cases hs : k.2.1.length + k.2.2.1.length ≤ 1048576
  · have h0 : ¬ (1048576 - (k.2.1.length : Int) - (k.2.2.1.length : Int) < 0) := by omega
    obtain ⟨x, hx1, hx2, hf⟩ := SysRevoke_same k s (by omega) (by omega)
    have g1 : x.2.2.2.2.2.1.length ≤ 1048577 := by have := hf.1; omega
    have g2 : x.2.2.2.2.2.2.length ≤ 1048577 := by have := hf.2; omega
    have q1 : ¬ (1 + 6 * (k.2.1.length : Int) + 1 * (k.2.2.1.length : Int) < 0) := by omega
    have q2 : ¬ (1 + 6 * (x.2.2.2.2.2.1.length : Int) + 1 * (x.2.2.2.2.2.2.length : Int) < 0) := by omega
    simp only [hs, h0, if_true, B7, decide_false, cond_false, cond_true, toKernel_ok k (by omega) (by omega), ek, hx1, hx2, kRes_eq _ g1 g2, Bool.not_true, Bool.not_false, bne_self_eq_false, eqKernel_ok k (by omega) (by omega), kMark k (by omega) (by omega), q1, rMark _ g1 g2, rHeld _ g1 g2, q2]
  · simp [hs]

end Go.Ev
