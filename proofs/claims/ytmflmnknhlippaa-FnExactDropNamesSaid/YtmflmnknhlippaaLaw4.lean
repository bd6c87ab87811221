/-
  Names: dropping.
-/
import Derived.Test.YtmflmnknhlippaaLaw3
namespace Go.Ev
set_option linter.unusedVariables false
set_option linter.unusedSimpArgs false
set_option maxRecDepth 100000
set_option synthInstance.maxSize 2000
set_option synthInstance.maxHeartbeats 400000
/-! ### names as a sorted list -/

theorem names_pw {xs : List DName} : namesV xs = true ↔ xs.length ≤ 20 ∧ (∀ x ∈ xs, mayN x = true) ∧ xs.Pairwise (fun a b => ltB a.1 b.1 = true) := by
  constructor
  · intro h
    obtain ⟨h1, h2⟩ := names_iff.1 h
    refine ⟨h2, fun x hx => ?_, List.pairwise_iff_getElem.2 fun i j hi hj hij => sorted h hj hij⟩
    obtain ⟨i, hi⟩ := List.getElem?_of_mem hx
    have := h1 i x hi
    unfold nOk at this
    unfold mayN
    simp only [Bool.and_eq_true] at this ⊢
    exact ⟨this.1, this.2.1⟩
  · rintro ⟨h1, h2, h3⟩
    refine names_iff.2 ⟨fun i x hx => ?_, h1⟩
    have hm := h2 x (List.mem_of_getElem? hx)
    unfold mayN at hm
    unfold nOk
    simp only [Bool.and_eq_true] at hm
    simp only [Bool.and_eq_true, Bool.or_eq_true, decide_eq_true_eq]
    refine ⟨hm.1, hm.2, ?_⟩
    by_cases h0 : i = 0
    · exact .inl h0
    · right
      have hl := get_lt hx
      have hg : xs.getD (i - 1) nN = xs[i - 1] := by simp [List.getD, show i - 1 < xs.length by omega]
      have hxi : xs[i] = x := (List.getElem?_eq_some_iff.1 hx).2
      have := List.pairwise_iff_getElem.1 h3 (i - 1) i (by omega) hl (by omega)
      rw [hg, ← hxi]
      exact this

theorem names_filter {xs : List DName} (h : namesV xs = true) (p : DName → Bool) : namesV (xs.filter p) = true := by
  obtain ⟨h1, h2, h3⟩ := names_pw.1 h
  exact names_pw.2 ⟨Nat.le_trans (List.length_filter_le _ _) h1, fun x hx => h2 x (List.mem_filter.1 hx).1, h3.filter p⟩

theorem names_one {xs : List DName} (h : namesV xs = true) {x y : DName} (hx : x ∈ xs) (hy : y ∈ xs) (e : x.1 = y.1) : x = y := by
  obtain ⟨i, hi⟩ := List.getElem?_of_mem hx
  obtain ⟨j, hj⟩ := List.getElem?_of_mem hy
  have h1 := (atN_iff h hi).1 rfl
  have h2 := (atN_iff h hj).1 e.symm
  have : i = j := h1.2.symm.trans h2.2
  subst this
  rw [hi] at hj
  exact Option.some.inj hj

theorem findN_mem {xs : List DName} (h : namesV xs = true) {x : DName} (hx : x ∈ xs) : findN xs x.1 = (x.2.2.1, true) := by
  obtain ⟨i, hi⟩ := List.getElem?_of_mem hx
  have h1 := (atN_iff h hi).1 rfl
  have : xs.getD (ixN xs x.1) nN = x := by rw [h1.2]; simp [List.getD, hi]
  simp only [findN, h, h1.1, Bool.and_self, cond_true, this]

theorem atN_none {xs : List DName} (h : namesV xs = true) {t : ByteArray} (hn : ∀ x ∈ xs, x.1 ≠ t) : atN xs t = false := by
  cases ha : atN xs t with
  | false => rfl
  | true =>
    have hlt := atN_lt ha
    have := (atN_iff h (List.getElem?_eq_getElem hlt)).2 ⟨ha, rfl⟩
    exact absurd this (hn _ (List.getElem_mem hlt))

theorem findN_none {xs : List DName} (h : namesV xs = true) {t : ByteArray} (hn : ∀ x ∈ xs, x.1 ≠ t) : findN xs t = (0, false) := by
  simp [findN, atN_none h hn]

/-! ### names that are dropped -/

def keepN (o : Int) (x : DName) : Bool := !(x.2.1 == o)

theorem c1_ok (x : DName) (o : Int) : impl_DropNames_c1 x o = some (!keepN o x) := by
  unfold keepN
  rw [Bool.not_not]
  rfl

def dropN (xs : List DName) (o : Int) : List DName := bif namesV xs then xs.filter (keepN o) else []

theorem index_ok (xs : List DName) (o : Int) (h : xs.length ≤ 1048577) : slices_IndexFunc_Name xs o = some (match xs.findIdx? (fun x => !keepN o x) with | some j => (j : Int) | none => -1) := by
  unfold slices_IndexFunc_Name slices_IndexFunc_NameK
  have := loop_list0 (nxt := slices_IndexFunc_Name_l0) xs (fun i (_ : Unit) => (xs, o, (xs.length : Int), (i : Int), ())) (fun i x _ => bif !keepN o x then .inr (.inr ((i : Int), ())) else .inl ()) (fun _ => .inl ()) ()
    (fun i x s hx => ?_) (fun s => ?_) (st := (xs, o, (xs.length : Int), 0, ())) rfl
  · rw [this, goL_find (fun x => !keepN o x) (fun i => (.inr ((i : Int), ()) : Unit ⊕ (Int × Unit)))]
    cases xs.findIdx? (fun x => !keepN o x) with
    | none => rfl
    | some j => simp [endK]
  · have hl := get_lt hx
    simp only [slices_IndexFunc_Name_l0, slices_IndexFunc_Name_l0K, dec_lt hx, cond_true, nnK_nat, getK_some hx, c1_ok, some_bind', wrapS (show i < 4611686018427387904 by omega), goTo_if, goTo_l, goTo_r]
    cases keepN o x <;> rfl
  · simp only [slices_IndexFunc_Name_l0, slices_IndexFunc_Name_l0K, dec_nlt, cond_false]

theorem delete_loop (xs : List DName) (o : Int) (h : xs.length ≤ 1048577) : ∀ (f i j : Nat) (b : List DName), j + f = xs.length → i < j → b.length = xs.length → b.drop j = xs.drop j → b.take i = (xs.take j).filter (keepN o) →
    ∃ (i' : Nat) (b' : List DName), loopF slices_DeleteFunc_Name_l0 (o, (i : Int), (j : Int), b, ()) = some ((i' : Int), b', ()) ∧ i' ≤ b'.length ∧ b'.take i' = xs.filter (keepN o) ∧ b'.length = xs.length := by
  intro f
  induction f with
  | zero =>
    intro i j b hj hij hl hd ht
    have : j = xs.length := by omega
    subst this
    refine ⟨i, b, loopF_inr ?_, by omega, by simpa using ht, hl⟩
    simp only [slices_DeleteFunc_Name_l0, slices_DeleteFunc_Name_l0K, ← hl, dec_nlt, cond_false]
  | succ f ih =>
    intro i j b hj hij hl hd ht
    have hjx : j < xs.length := by omega
    have hjb : j < b.length := by omega
    have hbj : b[j]? = some xs[j] := by
      have := congrArg (fun l => l[0]?) hd
      simpa [hjx, List.getElem?_drop] using this
    have hd' : decide ((j : Int) < (b.length : Int)) = true := by simp; omega
    have htk : xs.take (j + 1) = xs.take j ++ [xs[j]] := by rw [List.take_add_one]; simp [hjx]
    have em : (xs[j].1, xs[j].2.1, xs[j].2.2.1, ()) = xs[j] := rfl
    cases hk : keepN o xs[j] with
    | true =>
      have hib : i < b.length := by omega
      have hst : slices_DeleteFunc_Name_l0 (o, (i : Int), (j : Int), b, ()) = some (.inl (o, ((i + 1 : Nat) : Int), ((j + 1 : Nat) : Int), b.set i xs[j], ())) := by
        simp only [slices_DeleteFunc_Name_l0, slices_DeleteFunc_Name_l0K, hd', cond_true, nnK_nat, chk_pos hjb, getK_some hbj, em, c1_ok, some_bind', hk, Bool.not_true, Bool.not_false, cond_true, chk_pos hib, getK_lt hib, wrapS (show i < 4611686018427387904 by omega), wrapS (show j < 4611686018427387904 by omega)]
      rw [loopF_inl hst]
      refine ih (i + 1) (j + 1) _ (by omega) (by omega) (by simpa using hl) ?_ ?_
      · rw [List.drop_set_of_lt (by omega)]
        have := congrArg List.tail hd
        simpa [List.tail_drop] using this
      · rw [htk, List.filter_append, ← ht, List.take_add_one, List.take_set_of_le (Nat.le_refl i), List.getElem?_set_self hib]
        simp [hk]
    | false =>
      have hst : slices_DeleteFunc_Name_l0 (o, (i : Int), (j : Int), b, ()) = some (.inl (o, (i : Int), ((j + 1 : Nat) : Int), b, ())) := by
        simp only [slices_DeleteFunc_Name_l0, slices_DeleteFunc_Name_l0K, hd', cond_true, nnK_nat, chk_pos hjb, getK_some hbj, em, c1_ok, some_bind', hk, Bool.not_true, Bool.not_false, cond_false, wrapS (show j < 4611686018427387904 by omega)]
      rw [loopF_inl hst]
      refine ih i (j + 1) _ (by omega) (by omega) hl ?_ ?_
      · have := congrArg List.tail hd
        simpa [List.tail_drop] using this
      · rw [htk, List.filter_append, ← ht]
        simp [hk]

theorem delete_ok (xs : List DName) (o : Int) (h : xs.length ≤ 1048577) : ∃ n b, slices_DeleteFunc_Name o xs = some (n, b) ∧ b.take n = xs.filter (keepN o) ∧ n ≤ b.length := by
  unfold slices_DeleteFunc_Name slices_DeleteFunc_NameK
  rw [index_ok xs o h]
  cases hf : xs.findIdx? (fun x => !keepN o x) with
  | none =>
    rw [List.findIdx?_eq_none_iff] at hf
    refine ⟨xs.length, xs, rfl, ?_, Nat.le_refl _⟩
    rw [List.take_length]
    exact (List.filter_eq_self.2 fun x hx => by simpa using hf x hx).symm
  | some r =>
    rw [List.findIdx?_eq_some_iff_getElem] at hf
    obtain ⟨hr, h1, h2⟩ := hf
    have e1 : ((r : Int) == -1) = false := by simp
    simp only [some_bind', e1, cond_false, wrapS (show r < 4611686018427387904 by omega)]
    have htk : xs.take (r + 1) = xs.take r ++ [xs[r]] := by rw [List.take_add_one]; simp [hr]
    have hkr : keepN o xs[r] = false := by simpa using h1
    obtain ⟨i', b', e2, hi, ht, hl⟩ := delete_loop xs o h (xs.length - (r + 1)) r (r + 1) xs (by omega) (by omega) rfl rfl (by
      rw [htk, List.filter_append, List.filter_eq_self.2 fun x hx => by
        obtain ⟨k, hk⟩ := List.getElem?_of_mem hx
        have hlt := get_lt hk
        simp only [List.length_take] at hlt
        rw [List.getElem?_take, if_pos (by omega)] at hk
        have := h2 k (by omega)
        have hxk : xs[k] = x := (List.getElem?_eq_some_iff.1 hk).2
        rw [hxk] at this
        simpa using this]
      simp [hkr])
    rw [e2]
    simp only [some_bind', nnK_nat, chk_pos hi]
    have hol : (over b' i' (List.replicate (b'.length - i') ((ByteArray.mk #[]), (0 : Int), (0 : Int), ()))).length = b'.length := over_len _ _ _ (by simp; omega)
    rw [chk_pos (by rw [hol]; exact hi)]
    exact ⟨i', _, rfl, by rw [take_over _ _ hi]; exact ht, by rw [hol]; exact hi⟩

theorem cloneN_ok (xs : List DName) (h : xs.length ≤ 1048577) : slices_Clone_Name xs = some xs := by
  have hb : xs.length ≤ bigRow := by simp only [bigRow]; omega
  simp [slices_Clone_Name, slices_Clone_NameK, chk, hb]

theorem dropN_len (xs : List DName) (o : Int) : (dropN xs o).length ≤ xs.length := by
  unfold dropN
  cases namesV xs with
  | false => simp
  | true => exact List.length_filter_le _ _

theorem impl_DropNames_ok (xs : List DName) (o : Int) (h : xs.length ≤ 1048577) (hs : small xs) : ∃ n b, impl_DropNames xs o = some (n, (if namesV xs = true then (xs.length : Int) - ((dropN xs o).length : Int) else 0), b) ∧ (b.drop 0).take n = dropN xs o ∧ n ≤ b.length := by
  unfold impl_DropNames impl_DropNamesK
  rw [impl_NamesValid_ok xs h hs]
  cases hv : namesV xs with
  | false => exact ⟨0, [], by simp, by simp [dropN, hv], by simp⟩
  | true =>
    obtain ⟨n, b, e, ht, hn⟩ := delete_ok xs o h
    have hd : dropN xs o = xs.filter (keepN o) := by simp [dropN, hv]
    have hlen : (dropN xs o).length = n := by rw [hd, ← ht]; simp; omega
    have hle := dropN_len xs o
    refine ⟨n, b, ?_, by rw [hd, List.drop_zero]; exact ht, hn⟩
    simp only [some_bind', Bool.not_true, cond_false, cloneN_ok xs h, e, slices_Clip_Name, slices_Clip_NameK, if_true]
    rw [chk_pos (by omega), chk_pos ⟨trivial, trivial⟩]
    simp only [some_bind', hlen]
    rw [wrap64 (n := (xs.length : Int) - (n : Int)) (by omega) (by omega)]

theorem spec_DropNames_ok (xs : List DName) (o : Int) (h : xs.length ≤ 1048577) (hs : small xs) : spec_DropNames xs o = some ((if namesV xs = true then (xs.length : Int) - ((dropN xs o).length : Int) else 0), dropN xs o) := by
  unfold spec_DropNames spec_DropNamesK
  rw [spec_NamesValid_ok xs h hs]
  cases hv : namesV xs with
  | false => simp [dropN, hv]
  | true =>
    have hd : dropN xs o = xs.filter (keepN o) := by simp [dropN, hv]
    have hle := dropN_len xs o
    have key : ∀ (r : List DName) (i : Nat) (b : List DName), xs.drop i = r → i ≤ xs.length → b.length ≤ i → loopF spec_DropNames_l0 (xs, o, (i : Int), b, ()) = some (xs, b ++ r.filter (keepN o), ()) := by
      intro r
      induction r with
      | nil =>
        intro i b hd hi hb
        have : i = xs.length := by
          have := congrArg List.length hd
          simp at this; omega
        subst this
        apply loopF_inr
        simp only [spec_DropNames_l0, spec_DropNames_l0K, dec_nlt, cond_false, List.filter_nil, List.append_nil]
      | cons x r ih =>
        intro i b hd hi hb
        obtain ⟨hx, hr⟩ := drop_get hd
        have hlt := get_lt hx
        have e : (x.2.1 != o) = keepN o x := by simp [keepN, bne]
        have hbig : b.length + 1 ≤ bigRow := by simp only [bigRow]; omega
        cases hk : keepN o x with
        | true =>
          have hst : spec_DropNames_l0 (xs, o, (i : Int), b, ()) = some (.inl (xs, o, ((i + 1 : Nat) : Int), b ++ [x], ())) := by
            simp only [spec_DropNames_l0, spec_DropNames_l0K, dec_lt hx, cond_true, nnK_nat, getK_some hx, e, hk, chk_pos hbig, wrapS (show i < 4611686018427387904 by omega)]
          rw [loopF_inl hst, ih (i + 1) _ hr (by omega) (by simp; omega)]
          simp [hk]
        | false =>
          have hst : spec_DropNames_l0 (xs, o, (i : Int), b, ()) = some (.inl (xs, o, ((i + 1 : Nat) : Int), b, ())) := by
            simp only [spec_DropNames_l0, spec_DropNames_l0K, dec_lt hx, cond_true, nnK_nat, getK_some hx, e, hk, cond_false, wrapS (show i < 4611686018427387904 by omega)]
          rw [loopF_inl hst, ih (i + 1) _ hr (by omega) (by omega)]
          simp [hk]
    have := key xs 0 [] (by simp) (by omega) (by simp)
    have hl0 : loopF spec_DropNames_l0 (xs, o, 0, [], ()) = some (xs, xs.filter (keepN o), ()) := by simpa using this
    simp only [some_bind', Bool.not_true, cond_false, hl0, if_true, hd]
    rw [hd] at hle
    rw [wrap64 (n := (xs.length : Int) - _) (by omega) (by omega)]

theorem sameNames_ok (xs ys : List DName) (h : xs.length ≤ 1048577) : laws_sameNames xs ys = some (decide (xs = ys)) := by
  unfold laws_sameNames laws_sameNamesK
  by_cases hl : xs.length = ys.length
  · have e : ((xs.length : Int) != (ys.length : Int)) = false := by simp [hl]
    have hq : loopF laws_sameNames_l0 (xs, ys, 0, ()) = some (if xs = ys then .inl () else .inr (false, ())) := by
      refine loop_eq2 xs ys (fun i => (xs, ys, (i : Int), ())) _ _ hl (fun i x y hx hy => ?_) ?_ rfl
      · have hl := get_lt hx
        obtain ⟨x1, x2, x3, ⟨⟩⟩ := x
        obtain ⟨y1, y2, y3, ⟨⟩⟩ := y
        simp only [laws_sameNames_l0, laws_sameNames_l0K, dec_lt hx, cond_true, nnK_nat, getK_some hx, getK_some hy, wrapS (show i < 4611686018427387904 by omega), beqS]
        by_cases h1 : x1 = y1 <;> by_cases h2 : x2 = y2 <;> by_cases h3 : x3 = y3 <;> simp [h1, h2, h3]
      · simp only [laws_sameNames_l0, laws_sameNames_l0K, dec_nlt, cond_false]
    rw [e, cond_false, hq]
    by_cases h : xs = ys <;> simp [h, endK]
  · have e : ((xs.length : Int) != (ys.length : Int)) = true := by simp; omega
    rw [e, cond_true]
    have : ¬ xs = ys := fun e => hl (by rw [e])
    simp [this]

theorem DrawDropNames_ok (code : List Int) (hc : ∀ x ∈ code, 0 ≤ x ∧ x ≤ 255) : ∃ o s, spec_DrawDropNames code = some (o, s) ∧ tiny s ∧ s.length ≤ 12 := by
  unfold spec_DrawDropNames spec_DrawDropNamesK
  obtain ⟨b, e, hb⟩ := openE code hc
  obtain ⟨b1, s, e1, hb1, hs, hl⟩ := l20Names_ok 12 b (by omega) (hb.mono (by omega))
  obtain ⟨o, b2, d2, ht, _, hb2⟩ := pickE 4 b1 hb1 (by omega) (by omega)
  simp only [e, e1, some_bind', d2]
  exact ⟨o, s, rfl, hs, hl⟩

theorem drop_loop (xs : List DName) (o : Int) (n : Int) (hv : namesV xs = true) (h : xs.length ≤ 1048577) (hs : small xs) :
    ∀ (r : List DName) (i : Nat), xs.drop i = r → i ≤ xs.length → loopF laws_FnDropNames_l0 (xs, o, xs.filter (keepN o), n, (i : Int), ()) = some (.inl (xs, xs.filter (keepN o), n, ())) := by
  intro r
  induction r with
  | nil =>
    intro i hd hi
    have : i = xs.length := by
      have := congrArg List.length hd
      simp at this; omega
    subst this
    apply loopF_inr
    simp only [laws_FnDropNames_l0, laws_FnDropNames_l0K, dec_nlt, cond_false]
  | cons x r ih =>
    intro i hd hi
    obtain ⟨hx, hr⟩ := drop_get hd
    have hlt := get_lt hx
    have hm := List.mem_of_getElem? hx
    have hfl := List.length_filter_le (keepN o) xs
    have hfs : small (xs.filter (keepN o)) := fun y hy => hs y (List.mem_filter.1 hy).1
    have hfv := names_filter hv (keepN o)
    have e : (x.2.1 != o) = keepN o x := by simp [keepN, bne]
    have hst : laws_FnDropNames_l0 (xs, o, xs.filter (keepN o), n, (i : Int), ()) = some (.inl (xs, o, xs.filter (keepN o), n, ((i + 1 : Nat) : Int), ())) := by
      simp only [laws_FnDropNames_l0, laws_FnDropNames_l0K, dec_lt hx, cond_true, nnK_nat, getK_some hx, impl_FindName_ok _ _ (show (xs.filter (keepN o)).length ≤ 1048577 by omega) hfs, some_bind', wrapS (show i < 4611686018427387904 by omega), e]
      cases hk : keepN o x with
      | true =>
        rw [findN_mem hfv (List.mem_filter.2 ⟨hm, hk⟩)]
        simp
      | false =>
        rw [findN_none hfv (fun y hy q => by
          obtain ⟨h1, h2⟩ := List.mem_filter.1 hy
          have := names_one hv h1 hm q
          subst this
          rw [hk] at h2
          cases h2)]
        simp
    rw [loopF_inl hst]
    exact ih (i + 1) hr (by omega)

theorem FnDropNames_law (code : List Int) (h : WfD (.cons (.sl (.int .u8)) .nil) (code, ())) : laws_FnDropNames code = some true := by
  have hc : ∀ x ∈ code, 0 ≤ x ∧ x ≤ 255 := fun x hx => h.1.2 x hx
  unfold laws_FnDropNames laws_FnDropNamesK
  by_cases hl : ((code.length : Int) > 1048576)
  · simp [hl]
  · obtain ⟨o, s, hs, ht, hl7⟩ := DrawDropNames_ok code hc
    obtain ⟨n, b, e1, e2, _⟩ := impl_DropNames_ok s o (by omega) (tiny_small ht)
    have hdl := dropN_len s o
    simp only [hl, decide_false, cond_false, hs, some_bind', e1, spec_DropNames_ok s o (by omega) (tiny_small ht), e2, sameNames_ok _ _ (show (dropN s o).length ≤ 1048577 by omega), decide_true, Bool.not_true, Bool.not_false, cond_true, bne_self_eq_false, spec_NamesValid_ok s (by omega) (tiny_small ht)]
    cases hv : namesV s with
    | false =>
      have hd : dropN s o = [] := by simp [dropN, hv]
      simp [hd, alive_ok]
    | true =>
      have hd : dropN s o = s.filter (keepN o) := by simp [dropN, hv]
      have hloop := drop_loop s o ((s.length : Int) - ((dropN s o).length : Int)) hv (by omega) (tiny_small ht) s 0 (by simp) (by omega)
      rw [← hd] at hloop
      have hloop' : loopF laws_FnDropNames_l0 (s, o, dropN s o, (s.length : Int) - ((dropN s o).length : Int), 0, ()) = some (.inl (s, dropN s o, (s.length : Int) - ((dropN s o).length : Int), ())) := hloop
      have hfv : namesV (dropN s o) = true := by rw [hd]; exact names_filter hv _
      have hfs : small (dropN s o) := by rw [hd]; exact fun y hy => tiny_small ht y (List.mem_filter.1 hy).1
      simp only [Bool.not_true, cond_false, if_true, hloop', some_bind', endK, impl_NamesValid_ok (dropN s o) (by omega) hfs, hfv]
      rw [wrap64 (n := ((dropN s o).length : Int) + ((s.length : Int) - ((dropN s o).length : Int))) (by omega) (by omega)]
      have : (((dropN s o).length : Int) + ((s.length : Int) - ((dropN s o).length : Int)) == (s.length : Int)) = true := by
        rw [beq_iff_eq]; omega
      rw [this]
      rfl


end Go.Ev
