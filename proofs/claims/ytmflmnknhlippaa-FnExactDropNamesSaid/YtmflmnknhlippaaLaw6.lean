/-
  Names: the law of putting; marks.
-/
import Derived.Test.YtmflmnknhlippaaLaw5
namespace Go.Ev
set_option linter.unusedVariables false
set_option linter.unusedSimpArgs false
set_option maxRecDepth 100000
set_option synthInstance.maxSize 2000
set_option synthInstance.maxHeartbeats 400000
/-! ### putting: the law of what was drawn -/

theorem putlaw_loop (s P : List DName) (x : DName) (a : Int) (found : Bool) (hv : namesV P = true) (h : s.length ≤ 1048577) (hP : P.length ≤ 1048577) (hPs : small P) (hx : x ∈ P) (h1 : ∀ y ∈ s, y.1 ≠ x.1 → y ∈ P) (h2 : ∀ y ∈ s, y.1 = x.1 → y.2.1 = x.2.1) :
    ∀ (r : List DName) (i : Nat), s.drop i = r → i ≤ s.length → loopF laws_FnPutName_l0 (s, P, a, found, (i : Int), x, ()) = some (.inl (s, P, a, found, x, ())) := by
  intro r
  induction r with
  | nil =>
    intro i hd hi
    have : i = s.length := by
      have := congrArg List.length hd
      simp at this; omega
    subst this
    apply loopF_inr
    simp only [laws_FnPutName_l0, laws_FnPutName_l0K, dec_nlt, cond_false]
  | cons y r ih =>
    intro i hd hi
    obtain ⟨hy, hr⟩ := drop_get hd
    have hlt := get_lt hy
    have hm := List.mem_of_getElem? hy
    have hst : laws_FnPutName_l0 (s, P, a, found, (i : Int), x, ()) = some (.inl (s, P, a, found, ((i + 1 : Nat) : Int), x, ())) := by
      simp only [laws_FnPutName_l0, laws_FnPutName_l0K, dec_lt hy, cond_true, nnK_nat, getK_some hy, impl_FindName_ok P y.1 hP hPs, some_bind', wrapS (show i < 4611686018427387904 by omega)]
      by_cases e : y.1 = x.1
      · have e1 : (y.1.toList == x.1.toList) = true := toList_eq.2 e
        have ef : findN P y.1 = (x.2.2.1, true) := by rw [e]; exact findN_mem hv hx
        have eo : (y.2.1 != x.2.1) = false := by rw [h2 y hm e]; simp
        simp only [ef, e1, eo, Bool.not_true, Bool.not_false, cond_true, cond_false]
      · have e1 : (y.1.toList == x.1.toList) = false := by
          cases hb : (y.1.toList == x.1.toList) with
          | false => rfl
          | true => exact absurd (toList_eq.1 hb) e
        have ef : findN P y.1 = (y.2.2.1, true) := findN_mem hv (h1 y hm e)
        simp only [ef, e1, Bool.not_true, Bool.not_false, cond_true, cond_false, bne_self_eq_false]
    rw [loopF_inl hst]
    exact ih (i + 1) hr (by omega)

theorem FnPutName_law (code : List Int) (h : WfD (.cons (.sl (.int .u8)) .nil) (code, ())) : laws_FnPutName code = some true := by
  have hc : ∀ x ∈ code, 0 ≤ x ∧ x ≤ 255 := fun x hx => h.1.2 x hx
  unfold laws_FnPutName laws_FnPutNameK
  by_cases hl : ((code.length : Int) > 1048576)
  · simp [hl]
  · obtain ⟨x, s, hs, hx0, ht, hl12⟩ := DrawPutName_ok code hc
    have em : (x.1, x.2.1, x.2.2.1, ()) = x := rfl
    have hxs : x.1.size ≤ 9223372036854775807 := by omega
    have hpl := putN_length s x
    simp only [hl, decide_false, cond_false, hs, some_bind', em, impl_PutName_ok s x (by omega) (tiny_small ht) hxs, spec_PutName_ok s x (by omega) (tiny_small ht) hxs, sameNames_ok _ _ (show (putN s x).2.length ≤ 1048577 by omega), decide_true, Bool.not_true, Bool.not_false, cond_true, beq_self_eq_true]
    cases hp : (putN s x).1 with
    | false =>
      have hP : (putN s x).2 = s ∨ (putN s x).2 = [] := by
        unfold putN at hp ⊢
        cases hcv : (namesV s && mayN x) with
        | false => exact .inr rfl
        | true =>
          rw [hcv] at hp
          simp only [cond_true] at hp ⊢
          cases ha : atN s x.1 with
          | true =>
            rw [ha] at hp
            simp only [cond_true] at hp ⊢
            split at hp
            · cases hp
            · rename_i q; rw [if_neg q]; exact .inl rfl
          | false =>
            rw [ha] at hp
            simp only [cond_false] at hp ⊢
            split at hp
            · rename_i q; rw [if_pos q]; exact .inl rfl
            · cases hp
      simp only [Bool.not_false, cond_true, alive_ok, some_bind']
      rcases hP with e | e
      · simp only [e, sameNames_ok s s (by omega), some_bind', decide_true, cond_true]
        cases (!((s.length : Int) == (0 : Int))) <;> rfl
      · rw [e]
        rfl
    | true =>
      obtain ⟨hv, hm, hpv, hmem, _, hin, hown, hlen, _⟩ := putN_good hp
      have hps := putN_small (tiny_small ht) hxs
      have hloop := putlaw_loop s (putN s x).2 x x.2.2.1 true hpv (by omega) (by omega) hps hmem hin hown s 0 (by simp) (by omega)
      have hloop' : loopF laws_FnPutName_l0 (s, (putN s x).2, x.2.2.1, true, 0, x, ()) = some (.inl (s, (putN s x).2, x.2.2.1, true, x, ())) := hloop
      simp only [Bool.not_true, cond_false, impl_FindName_ok (putN s x).2 x.1 (by omega) hps, findN_mem hpv hmem, some_bind', hloop', endK, cond_true, beq_self_eq_true, impl_NamesValid_ok (putN s x).2 (by omega) hps, hpv]
      rw [wrap64 (n := (s.length : Int) + 1) (by omega) (by omega)]
      simp; omega

/-! ### marks -/

theorem one_byte (a : Int) : (bytesV [a]).size = 1 := rfl

theorem text_loop : ∀ (f k : Nat) (o : ByteArray), k ≤ f → o.size + k ≤ 2000000000000 → ∃ t, loopF laws_markText_l0 ((k : Int), o, ()) = some (t, ()) ∧ t.size ≤ o.size + k
  | 0, k, o, hk, hb => by
    obtain rfl : k = 0 := by omega
    exact ⟨o, loopF_inr rfl, by omega⟩
  | f + 1, k, o, hk, hb => by
    by_cases h0 : k = 0
    · subst h0; exact ⟨o, loopF_inr rfl, by omega⟩
    · have hd : decide ((k : Int) > 0) = true := by simp; omega
      have hdiv : IntKind.wrap .i64 (Int.tdiv (k : Int) 10) = ((k / 10 : Nat) : Int) := by
        have e : Int.tdiv (k : Int) 10 = ((k / 10 : Nat) : Int) := rfl
        rw [e, wrap64 (by omega) (by omega)]
      have hsz : ∀ (a : Int), (bytesV [a] ++ o).size = 1 + o.size := fun a => by rw [ByteArray.size_append, one_byte]
      have hst : ∃ a : Int, laws_markText_l0 ((k : Int), o, ()) = some (.inl (((k / 10 : Nat) : Int), bytesV [a] ++ o, ())) := by
        refine ⟨IntKind.wrap .u8 (IntKind.wrap .i64 ((48 : Int) + Int.tmod (k : Int) 10)), ?_⟩
        simp only [laws_markText_l0, laws_markText_l0K, hd, cond_true, one_byte, hdiv]
        rw [chk_pos (by omega)]
      obtain ⟨a, hst⟩ := hst
      obtain ⟨t, e1, e2⟩ := text_loop f (k / 10) (bytesV [a] ++ o) (by omega) (by rw [hsz]; omega)
      refine ⟨t, by rw [loopF_inl hst]; exact e1, ?_⟩
      rw [hsz] at e2
      omega

noncomputable def mText (k : Int) : ByteArray := (laws_markText k).getD (ByteArray.mk #[])

theorem markText_ok {k : Int} (h0 : 0 ≤ k) (h1 : k ≤ 1000000000000) : laws_markText k = some (mText k) := by
  have : ∃ t, laws_markText k = some t := by
    unfold laws_markText laws_markTextK
    by_cases hk : k ≤ 0
    · exact ⟨_, by rw [decide_eq_true hk]; rfl⟩
    · obtain ⟨n, rfl⟩ : ∃ n : Nat, k = (n : Int) := ⟨k.toNat, by omega⟩
      have hz : (ByteArray.mk #[]).size = 0 := rfl
      have hz1 : (ByteArray.mk #[109]).size = 1 := rfl
      obtain ⟨t, e1, e2⟩ := text_loop n n (ByteArray.mk #[]) (Nat.le_refl _) (by rw [hz]; omega)
      refine ⟨ByteArray.mk #[109] ++ t, ?_⟩
      rw [hz] at e2
      rw [decide_eq_false hk]
      simp only [cond_false, e1, some_bind']
      rw [chk_pos (by rw [hz1]; omega)]
  obtain ⟨t, ht⟩ := this
  rw [mText, ht]
  rfl

noncomputable def EName (k : Int) : DName := (mText k, k + 1, k + 2, ())

theorem markNameS_ok (xs : List DName) (k : Int) (hk : 0 ≤ k) (hK : k + 3 * (xs.length : Int) ≤ 1000000000000) : laws_markNameS k xs = some (k + 3 * (xs.length : Int), marks EName 3 xs.length k) := by
  have : loopF laws_markNameS_l0 (k, 0, xs, ()) = some (k + (3 : Nat) * xs.length, marks EName 3 xs.length k, ()) := by
    refine loop_mark EName 3 (fun i k s => (k, (i : Int), s, ())) (fun k s => (k, s, ())) xs k 1000000000000 hk hK (fun i k s hk hkK hs hi => ?_) (fun k s hs => ?_) rfl
    · have hi' : i < s.length := by omega
      have hd : decide ((i : Int) < (s.length : Int)) = true := by simp; omega
      have w1 : IntKind.wrap .i64 (k + 1) = k + 1 := wrap64 (by omega) (by omega)
      have w2 : IntKind.wrap .i64 (k + 2) = k + 2 := wrap64 (by omega) (by omega)
      have w3 : IntKind.wrap .i64 (k + 3) = k + 3 := wrap64 (by omega) (by omega)
      have ws : IntKind.wrap .i64 ((i : Int) + 1) = (i : Int) + 1 := wrap64 (by omega) (by omega)
      simp [laws_markNameS_l0, laws_markNameS_l0K, hd, markText_ok hk (show k ≤ 1000000000000 by omega), nnK_nat, chk, getK, hi', w1, w2, w3, ws, EName, Int.add_assoc]
    · have hd : decide ((xs.length : Int) < (s.length : Int)) = false := by simp; omega
      simp only [laws_markNameS_l0, laws_markNameS_l0K, hd, cond_false]
  unfold laws_markNameS laws_markNameSK
  rw [this]
  rfl

theorem markPart_loop (n c : Nat) : ∀ (m i : Nat) (k : Int) (s : List DName), i + m = n → n ≤ s.length → n ≤ 1048577 → 0 ≤ k → k + 3 * (m : Int) ≤ 1000000000000 →
    ∃ s', loopF laws_markNameS_v2_l0 (n, c, k, (i : Int), s, ()) = some (k + 3 * (m : Int), s', ()) ∧ s'.take n = s.take i ++ marks EName 3 m k ∧ s'.length = s.length := by
  intro m
  induction m with
  | zero =>
    intro i k s hi hs _ _ _
    obtain rfl : i = n := by omega
    refine ⟨s, ?_, by simp [marks], rfl⟩
    refine loopF_inr ?_
    have hd : decide ((i : Int) < (i : Int)) = false := by simp
    simp [laws_markNameS_v2_l0, laws_markNameS_v2_l0K]
  | succ m ih =>
    intro i k s hi hs hn hk hK
    have hi' : i < s.length := by omega
    have hin : i < n := by omega
    have hd : decide ((i : Int) < (n : Int)) = true := by simp; omega
    have w1 : IntKind.wrap .i64 (k + 1) = k + 1 := wrap64 (by omega) (by omega)
    have w2 : IntKind.wrap .i64 (k + 2) = k + 2 := wrap64 (by omega) (by omega)
    have w3 : IntKind.wrap .i64 (k + 3) = k + 3 := wrap64 (by omega) (by omega)
    have ws : IntKind.wrap .i64 ((i : Int) + 1) = (i : Int) + 1 := wrap64 (by omega) (by omega)
    have hst : laws_markNameS_v2_l0 (n, c, k, (i : Int), s, ()) = some (.inl (n, c, k + 3, ((i + 1 : Nat) : Int), s.set i (EName k), ())) := by
      simp [laws_markNameS_v2_l0, laws_markNameS_v2_l0K, hin, markText_ok hk (show k ≤ 1000000000000 by omega), nnK_nat, chk, getK, hi', w1, w2, w3, ws, EName, Int.add_assoc]
    obtain ⟨s', e1, e2, e3⟩ := ih (i + 1) (k + 3) (s.set i (EName k)) (by omega) (by simpa using hs) hn (by omega) (by omega)
    refine ⟨s', ?_, ?_, by simpa using e3⟩
    · rw [loopF_inl hst, e1]
      congr 2
      omega
    · rw [e2, List.take_add_one, List.take_set_of_le (Nat.le_refl i), List.getElem?_set_self hi']
      simp [marks]

theorem markPart_ok (n c : Nat) (k : Int) (s : List DName) (h : n ≤ s.length) (hn : n ≤ 1048577) (hk : 0 ≤ k) (hK : k + 3 * (n : Int) ≤ 1000000000000) : ∃ s', laws_markNameS_v2 n c k s = some (k + 3 * (n : Int), s') ∧ (s'.drop 0).take n = marks EName 3 n k := by
  obtain ⟨s', e1, e2, e3⟩ := markPart_loop n c n 0 k s (by omega) h hn hk hK
  refine ⟨s', ?_, by simpa using e2⟩
  unfold laws_markNameS_v2 laws_markNameS_v2K
  rw [show ((n, c, k, (0 : Int), s, ()) : Nat × Nat × Int × Int × List DName × Unit) = (n, c, k, ((0 : Nat) : Int), s, ()) from rfl, e1]
  rfl

theorem heldNameS_ok (n : Nat) (k : Int) (hk : 0 ≤ k) (hK : k + 3 * (n : Int) ≤ 1000000000000) (hn : n ≤ 1048577) : laws_heldNameS (marks EName 3 n k) k = some (k + 3 * (n : Int)) := by
  have : loopF laws_heldNameS_l0 (marks EName 3 n k, k, 0, ()) = some (.inl (k + (3 : Nat) * n, ())) := by
    refine loop_held (nxt := laws_heldNameS_l0) EName 3 n k (fun i k' => (marks EName 3 n k, k', (i : Int), ())) (fun k => Sum.inl (k, ())) 1000000000000 hk hK (fun i k' hk hkK hx => ?_) (fun k => ?_) rfl
    · have hl := get_lt hx
      rw [marks_length] at hl
      have w1 : IntKind.wrap .i64 (k' + 1) = k' + 1 := wrap64 (by omega) (by omega)
      have w2 : IntKind.wrap .i64 (k' + 2) = k' + 2 := wrap64 (by omega) (by omega)
      have w3 : IntKind.wrap .i64 (k' + 3) = k' + 3 := wrap64 (by omega) (by omega)
      have ws : IntKind.wrap .i64 ((i : Int) + 1) = (i : Int) + 1 := wrap64 (by omega) (by omega)
      simp [laws_heldNameS_l0, laws_heldNameS_l0K, get_lt hx, nnK_nat, getK_some hx, markText_ok hk (show k' ≤ 1000000000000 by omega), w1, w2, w3, ws, EName, bneI, Int.add_assoc]
    · simp [laws_heldNameS_l0, laws_heldNameS_l0K, marks_length]
  unfold laws_heldNameS laws_heldNameSK
  rw [this]
  rfl

theorem FnExactPutName_law (xs : List DName) (x : DName) (h : WfD (.cons (.sl tName) (.cons tName .nil)) (xs, x, ())) : laws_FnExactPutName xs x = some true := by
  have hl : xs.length ≤ 9223372036854775807 := by have := h.1.1; simp only [maxLen] at this; omega
  have hs : small xs := fun y hy => by have := (h.1.2 y hy).1; simp only [WfD, maxLen] at this; omega
  have hx : x.1.size ≤ 9223372036854775807 := by have := h.2.1.1; simp only [WfD, maxLen] at this; omega
  have em : (x.1, x.2.1, x.2.2.1, ()) = x := rfl
  unfold laws_FnExactPutName laws_FnExactPutNameK
  obtain ⟨r, hr, hr2⟩ := szNameS_ok xs hl hs
  rw [hr]
  by_cases h0 : r < 0
  · simp [h0]
  · have hb := hr2 (by omega)
    obtain ⟨q, hq⟩ : ∃ q, laws_szName x r = some q := by
      unfold laws_szName laws_szNameK
      cases decide (IntKind.wrap .i64 (r - (x.1.size : Int)) < 0) <;> exact ⟨_, rfl⟩
    by_cases h1 : q < 0
    · simp [h0, em, hq, h1]
    · have hc := putN_length xs x
      have k1 : ¬ ((1 : Int) + 3 * ((putN xs x).2.length : Int) < 0) := by omega
      have k2 : ¬ ((1 : Int) + 3 * (xs.length : Int) < 0) := by omega
      simp [h0, em, hq, h1, toNameS_ok xs (by omega), toName_ok, impl_PutName_ok xs x hb hs hx, spec_PutName_ok xs x (by omega) hs hx, eqNameS_ok xs xs (by omega), eqNameS_ok (putN xs x).2 (putN xs x).2 (by omega), markNameS_ok xs 1 (by omega) (by omega), markNameS_ok (putN xs x).2 1 (by omega) (by omega), heldNameS_ok (putN xs x).2.length 1 (by omega) (by omega) (by omega), k1, k2]

theorem FnExactDropNames_law (xs : List DName) (o : Int) (h : WfD (.cons (.sl tName) (.cons I .nil)) (xs, o, ())) : laws_FnExactDropNames xs o = some true := by
  have hl : xs.length ≤ 9223372036854775807 := by have := h.1.1; simp only [maxLen] at this; omega
  have hs : small xs := fun y hy => by have := (h.1.2 y hy).1; simp only [WfD, maxLen] at this; omega
  unfold laws_FnExactDropNames laws_FnExactDropNamesK
  obtain ⟨r, hr, hr2⟩ := szNameS_ok xs hl hs
  rw [hr]
  by_cases h0 : r < 0
  · simp [h0]
  · have hb := hr2 (by omega)
    obtain ⟨n, b, e1, e2, e3⟩ := impl_DropNames_ok xs o (by omega) hs
    have hd := dropN_len xs o
    have hn : n = (dropN xs o).length := by rw [← e2]; simp; omega
    obtain ⟨s', f1, f2⟩ := markPart_ok n n 1 b e3 (by omega) (by omega) (by omega)
    have k1 : ¬ ((1 : Int) + 3 * (n : Int) < 0) := by omega
    have k2 : ¬ ((1 : Int) + 3 * (xs.length : Int) < 0) := by omega
    simp only [some_bind', decide_eq_false h0, cond_false, toNameS_ok xs (show xs.length ≤ 1048577 by omega), e1, spec_DropNames_ok xs o (by omega) hs, e2, eqNameS_ok (dropN xs o) (dropN xs o) (by omega), eqNameS_ok xs xs (show xs.length ≤ 1048577 by omega), decide_true, Bool.not_true, Bool.not_false, cond_true, bne_self_eq_false,
      markNameS_ok xs 1 (by omega) (show (1 : Int) + 3 * (xs.length : Int) ≤ 1000000000000 by omega), f1, f2, heldNameS_ok n 1 (by omega) (show (1 : Int) + 3 * (n : Int) ≤ 1000000000000 by omega) (show n ≤ 1048577 by omega), decide_eq_false k1, decide_eq_false k2]

end Go.Ev
