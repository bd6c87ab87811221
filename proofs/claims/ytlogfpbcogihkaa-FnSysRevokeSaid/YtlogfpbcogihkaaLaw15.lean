/-
  Kernels after deleting and revoking are in order; the law of deleting.
-/
import Derived.Test.YtlogfpbcogihkaaLaw12
namespace Go.Ev
set_option linter.unusedVariables false
set_option linter.unusedSimpArgs false
set_option maxRecDepth 100000
set_option synthInstance.maxSize 2000
set_option synthInstance.maxHeartbeats 400000
/-! ### capabilities within others, once more -/

theorem rights_nat : ∀ a b : Fin 16, decide (IntKind.wrap .i64 (((BitVec.ofInt 64 (a.val : Int) &&& BitVec.ofInt 64 (b.val : Int)).toNat : Int)) = (a.val : Int)) = decide (a.val &&& b.val = a.val) := by decide

def inC (a b : DCap) : Prop := capGood a = true ∧ capGood b = true ∧ a.1 = b.1 ∧ a.2.1 = b.2.1 ∧ a.2.2.1.toNat &&& b.2.2.1.toNat = a.2.2.1.toNat ∧ (a.2.2.2.1 = b.2.2.2.1 ∨ b.2.2.2.1 = 0)

theorem within_iff {a b : DCap} : withinC a b = true ↔ inC a b := by
  unfold withinC inC
  cases ha : capGood a with
  | false => simp
  | true =>
    cases hb : capGood b with
    | false => simp
    | true =>
      have h1 := capV_rights ha
      have h2 := capV_rights hb
      have := rights_nat ⟨a.2.2.1.toNat, by omega⟩ ⟨b.2.2.1.toNat, by omega⟩
      simp only [Int.toNat_of_nonneg h1.1, Int.toNat_of_nonneg h2.1] at this
      rw [this]
      simp only [Bool.true_and, Bool.and_eq_true, Bool.or_eq_true, decide_eq_true_eq, true_and]

theorem within_trans {a b c : DCap} (h1 : withinC a b = true) (h2 : withinC b c = true) : withinC a c = true := by
  rw [within_iff] at h1 h2 ⊢
  obtain ⟨a1, a2, a3, a4, a5, a6⟩ := h1
  obtain ⟨b1, b2, b3, b4, b5, b6⟩ := h2
  refine ⟨a1, b2, a3.trans b3, a4.trans b4, ?_, ?_⟩
  · rw [← a5, Nat.and_assoc, b5]
  · rcases a6 with q | q
    · rcases b6 with r | r
      · exact .inl (q.trans r)
      · exact .inr r
    · rcases b6 with r | r
      · exact .inr (r ▸ q)
      · exact .inr r

/-! ### what is in order, in words -/

def entP (d : List DEntry) (i : Nat) (v : DEntry) : Prop :=
  capGood v.1 = true ∧ v.1.1 ≠ 0 ∧ (-1 ≤ v.2.1 ∧ v.2.1 ≤ (i : Int) - 1) ∧ (v.2.2.1 = false → 0 ≤ v.2.1 → (d.getD v.2.1.toNat e0).2.2.1 = false ∧ withinC v.1 (d.getD v.2.1.toNat e0).1 = true)

theorem entOk_iff {d : List DEntry} {i : Nat} {v : DEntry} : entOk d i v = true ↔ entP d i v := by
  unfold entOk entP rgt
  simp only [Bool.and_eq_true, Bool.or_eq_true, Bool.not_eq_true', decide_eq_true_eq, decide_eq_false_iff_not]
  constructor
  · rintro ⟨h1, h2, h3, h4⟩
    refine ⟨h1, h2, h3, fun a b => ?_⟩
    rcases h4 with (q | q) | q
    · rw [a] at q; cases q
    · exact absurd b q
    · exact q
  · rintro ⟨h1, h2, h3, h4⟩
    refine ⟨h1, h2, h3, ?_⟩
    cases hg : v.2.2.1 with
    | true => exact .inl (.inl rfl)
    | false =>
      by_cases hp : v.2.1 ≥ 0
      · exact .inr (h4 hg hp)
      · exact .inl (.inr hp)

theorem derV_iff {d : List DEntry} : derV d = true ↔ d.length ≤ 30 ∧ ∀ i v, d[i]? = some v → entP d i v := by
  unfold derV
  rw [Bool.and_eq_true, all_zip0 (p := fun i v => entOk d i v), decide_eq_true_eq, and_comm]
  exact and_congr_right fun _ => ⟨fun h i v hv => entOk_iff.1 (h i v hv), fun h i v hv => entOk_iff.2 (h i v hv)⟩

theorem has_iff {L : List Int} {n : Int} : hasI L n = true ↔ n ∈ L := by
  unfold hasI
  rw [List.any_eq_true]
  constructor
  · rintro ⟨x, hx, e⟩
    rw [decide_eq_true_eq] at e
    exact e ▸ hx
  · intro h
    exact ⟨n, h, by simp⟩

theorem kern_iff {p : DPiece} {T : List DEntry} {L : List Int} {d : Int} : kernV (p, T, L, d, ()) = true ↔
    pieceV p = true ∧ derV T = true ∧ plV L = true ∧ (0 ≤ d ∧ d ≤ 100) ∧ (∀ (i : Nat) v, T[i]? = some v → (((i : Int) ∈ L ↔ v.2.2.1 = false) ∧ v.1.2.1 < d)) ∧ ∀ n ∈ L, n < (T.length : Int) := by
  have key : ∀ (i : Nat) (v : DEntry), knOk (p, T, L, d, ()) i v = true ↔ (((i : Int) ∈ L ↔ v.2.2.1 = false) ∧ v.1.2.1 < d) := fun i v => by
    unfold knOk
    rw [← has_iff]
    simp only [Bool.and_eq_true, Bool.not_eq_true', decide_eq_false_iff_not]
    cases hasI L (i : Int) <;> cases v.2.2.1 <;> simp
  have key2 : (L.any fun n => decide (n ≥ (T.length : Int))) = false ↔ ∀ n ∈ L, n < (T.length : Int) := by
    rw [List.any_eq_false]
    constructor
    · intro h n hn
      have := h n hn
      simp only [decide_eq_true_eq] at this
      omega
    · intro h n hn
      have := h n hn
      simp only [decide_eq_true_eq]
      omega
  have key3 : (T.zipIdx.all fun q => knOk (p, T, L, d, ()) q.2 q.1) = true ↔ ∀ (i : Nat) v, T[i]? = some v → (((i : Int) ∈ L ↔ v.2.2.1 = false) ∧ v.1.2.1 < d) := by
    rw [all_zip0 (p := fun i v => knOk (p, T, L, d, ()) i v)]
    exact ⟨fun h i v hv => (key i v).1 (h i v hv), fun h i v hv => (key i v).2 (h i v hv)⟩
  rw [← key2, ← key3]
  show (pieceV p && (derV T && (plV L && (rgt d 0 100 && ((T.zipIdx.all fun q => knOk (p, T, L, d, ()) q.2 q.1) && !(L.any fun n => decide (n ≥ (T.length : Int)))))))) = true ↔ _
  simp only [Bool.and_eq_true, Bool.not_eq_true', rgt, decide_eq_true_eq]

theorem getD_of {d : List DEntry} {i : Nat} {v : DEntry} (h : d[i]? = some v) : d.getD i e0 = v := by simp [List.getD, h]

/-! ### deleting: what is left is in order -/

theorem updE_held (n p : Int) (e : DEntry) : (updE n p e).1 = e.1 := by
  unfold updE
  cases (decide (e.2.1 = n) && !e.2.2.1) <;> rfl

theorem get_same {d d' : List DEntry} (h : d'.length = d.length) {i : Nat} {v' : DEntry} (hv : d'[i]? = some v') : ∃ v, d[i]? = some v := by
  have := get_lt hv
  exact ⟨_, eget_of (by omega)⟩

theorem rmC_held {d : List DEntry} {n i : Nat} (hi : i < d.length) : ((rmC d n).getD i e0).1 = (d.getD i e0).1 := by
  rw [getD_of (rmC_get (n := n) (eget_of hi))]
  by_cases h : i = n
  · rw [if_pos h]; rfl
  · rw [if_neg h, updE_held]

theorem rmC_flag {d : List DEntry} {n i : Nat} (hi : i < d.length) (hn : i ≠ n) : ((rmC d n).getD i e0).2.2.1 = (d.getD i e0).2.2.1 := by
  rw [getD_of (rmC_get (n := n) (eget_of hi)), if_neg hn, updE_flag]

theorem rm_der {d : List DEntry} (hd : derV d = true) {n : Nat} (hn : n < d.length) (hg : (d.getD n e0).2.2.1 = false) : derV (rmC d n) = true := by
  rw [derV_iff] at hd ⊢
  obtain ⟨hl, hE⟩ := hd
  refine ⟨by rw [rmC_length]; exact hl, fun i v' hv' => ?_⟩
  obtain ⟨v, hv⟩ := get_same (rmC_length d n) hv'
  have hi := get_lt hv
  rw [rmC_get hv] at hv'
  obtain ⟨a1, a2, a3, a4⟩ := hE i v hv
  obtain ⟨b1, b2, b3, b4⟩ := hE n _ (eget_of hn)
  by_cases hin : i = n
  · rw [if_pos hin] at hv'
    obtain rfl := Option.some.inj hv'
    exact ⟨a1, a2, a3, fun q => by cases q⟩
  · rw [if_neg hin] at hv'
    obtain rfl := Option.some.inj hv'
    by_cases hc : v.2.1 = (n : Int) ∧ v.2.2.1 = false
    · have e : updE (n : Int) (d.getD n e0).2.1 v = (v.1, (d.getD n e0).2.1, v.2.2.1, ()) := by simp [updE, hc.1, hc.2]
      rw [e]
      refine ⟨a1, a2, ⟨b3.1, by show (d.getD n e0).2.1 ≤ (i : Int) - 1; omega⟩, fun q1 q2 => ?_⟩
      have q2' : 0 ≤ (d.getD n e0).2.1 := q2
      have hlt : (d.getD n e0).2.1.toNat < d.length := by omega
      obtain ⟨c1, c2⟩ := a4 hc.2 (by omega)
      obtain ⟨c3, c4⟩ := b4 hg q2'
      rw [hc.1, Int.toNat_natCast] at c2
      show ((rmC d n).getD (d.getD n e0).2.1.toNat e0).2.2.1 = false ∧ withinC v.1 ((rmC d n).getD (d.getD n e0).2.1.toNat e0).1 = true
      rw [rmC_flag hlt (by omega), rmC_held hlt]
      exact ⟨c3, within_trans c2 c4⟩
    · have e : updE (n : Int) (d.getD n e0).2.1 v = v := by
        unfold updE
        have : (decide (v.2.1 = (n : Int)) && !v.2.2.1) = false := by
          rw [← Bool.not_eq_true]
          intro q
          simp only [Bool.and_eq_true, decide_eq_true_eq, Bool.not_eq_true'] at q
          exact hc q
        rw [this]; rfl
      rw [e]
      refine ⟨a1, a2, a3, fun q1 q2 => ?_⟩
      have hlt : v.2.1.toNat < d.length := by omega
      have hne : v.2.1.toNat ≠ n := fun q => hc ⟨by omega, q1⟩
      rw [rmC_flag hlt hne, rmC_held hlt]
      exact a4 q1 q2

theorem set_get {L : List Int} {s : Nat} (hs : s < L.length) (x : Int) (i : Nat) : (L.set s x)[i]? = if i = s then some x else L[i]? := by
  rw [List.getElem?_set]
  by_cases h : s = i
  · subst h; simp [hs]
  · rw [if_neg h, if_neg (Ne.symm h)]

theorem set_pl {L : List Int} (h : plV L = true) {s : Nat} (hs : s < L.length) : plV (L.set s (-1)) = true := by
  rw [pl_iff] at h ⊢
  obtain ⟨h1, h2, h3⟩ := h
  refine ⟨by simpa using h1, fun i v hi => ?_, fun i j v hi hj h0 => ?_⟩
  · rw [set_get hs] at hi
    split at hi
    · obtain rfl := Option.some.inj hi; omega
    · exact h2 i v hi
  · rw [set_get hs] at hi hj
    split at hi
    · obtain rfl := Option.some.inj hi; omega
    · split at hj
      · obtain rfl := Option.some.inj hj; omega
      · exact h3 i j v hi hj h0

theorem delete_valid {p : DPiece} {T : List DEntry} {L : List Int} {d : Int} (hv : kernV (p, T, L, d, ()) = true) {s : Nat} (hs : s < L.length) (h0 : 0 ≤ L.getD s 0) :
    kernV (p, rmC T (L.getD s 0).toNat, L.set s (-1), d, ()) = true := by
  have hLs := iget_of hs
  obtain ⟨hl, hlt⟩ := place_live hv (List.mem_of_getElem? hLs) h0
  have hlt' : (L.getD s 0).toNat < T.length := hlt
  obtain ⟨_, _, _, hg⟩ := live_in hl
  rw [kern_iff] at hv ⊢
  obtain ⟨g1, g2, g3, g4, g5, g6⟩ := hv
  have hinj := (pl_iff.1 g3).2.2
  refine ⟨g1, rm_der g2 hlt' hg, set_pl g3 hs, g4, fun i v' hv' => ?_, fun x hx => ?_⟩
  · obtain ⟨v, hv⟩ := get_same (rmC_length T _) hv'
    rw [rmC_get hv] at hv'
    obtain ⟨c1, c2⟩ := g5 i v hv
    have hmem : (i : Int) ∈ L.set s (-1) ↔ (i : Int) ∈ L ∧ (i : Int) ≠ L.getD s 0 := by
      constructor
      · intro hm
        obtain ⟨q, hq⟩ := List.getElem?_of_mem hm
        rw [set_get hs] at hq
        split at hq
        · have := Option.some.inj hq; omega
        · rename_i hqs
          refine ⟨List.mem_of_getElem? hq, fun e => hqs ?_⟩
          rw [e] at hq
          exact hinj q s _ hq hLs h0
      · rintro ⟨hm, hne⟩
        obtain ⟨q, hq⟩ := List.getElem?_of_mem hm
        refine List.mem_of_getElem? (i := q) ?_
        rw [set_get hs, if_neg, hq]
        intro e
        rw [e, hLs] at hq
        exact hne (Option.some.inj hq).symm
    by_cases hin : i = (L.getD s 0).toNat
    · rw [if_pos hin] at hv'
      obtain rfl := Option.some.inj hv'
      refine ⟨?_, c2⟩
      rw [hmem]
      have : (i : Int) = L.getD s 0 := by omega
      simp [this, remE]
    · rw [if_neg hin] at hv'
      obtain rfl := Option.some.inj hv'
      rw [updE_flag, updE_held, hmem]
      refine ⟨?_, c2⟩
      have : (i : Int) ≠ L.getD s 0 := by omega
      rw [← c1]
      exact ⟨fun q => q.1, fun q => ⟨q, this⟩⟩
  · rw [rmC_length]
    obtain ⟨q, hq⟩ := List.getElem?_of_mem hx
    rw [set_get hs] at hq
    split at hq
    · obtain rfl := Option.some.inj hq; omega
    · exact g6 x (List.mem_of_getElem? hq)

/-! ### revoking: what is left is in order -/

theorem goL_filter (c : Nat → Bool) : ∀ (r : List DEntry) (i : Nat) (s : List Int), goL (fun i (_ : DEntry) s => (.inl (bif c i then s ++ [(i : Int)] else s) : List Int ⊕ List Int)) (fun s => s) r i s = s ++ ((List.range' i r.length).filter c).map fun (i : Nat) => (i : Int)
  | [], i, s => by simp [goL]
  | x :: r, i, s => by
    simp only [goL, List.length_cons, List.range'_succ, List.filter_cons]
    rw [goL_filter c r (i + 1)]
    cases c i <;> simp

theorem desL_form (d : List DEntry) (n : Nat) : desL d n = ((List.range' (n + 1) (d.length - (n + 1))).filter (des d n)).map fun (i : Nat) => (i : Int) := by
  unfold desL
  rw [goL_filter (des d n), List.length_drop, List.nil_append]

theorem desL_mem {d : List DEntry} {n : Nat} {x : Int} : x ∈ desL d n ↔ ∃ i : Nat, x = (i : Int) ∧ n < i ∧ i < d.length ∧ des d n i = true := by
  rw [desL_form, List.mem_map]
  constructor
  · rintro ⟨i, hi, rfl⟩
    rw [List.mem_filter, List.mem_range'_1] at hi
    exact ⟨i, rfl, by omega, by omega, hi.2⟩
  · rintro ⟨i, rfl, h1, h2, h3⟩
    exact ⟨i, by rw [List.mem_filter, List.mem_range'_1]; exact ⟨by omega, h3⟩, rfl⟩

theorem desL_nodup (d : List DEntry) (n : Nat) : (desL d n).Nodup := by
  rw [desL_form]
  unfold List.Nodup
  rw [List.pairwise_map]
  refine ((List.pairwise_lt_range' (s := n + 1) (n := d.length - (n + 1))).filter _).imp fun h => ?_
  omega

theorem des_lt {d : List DEntry} (h : derV d = true) {n i : Nat} (hi : i < d.length) (hd : des d n i = true) : n < i ∧ gone d i = false := by
  rw [des_eq h hi] at hd
  have := par_lt h hi
  simp only [Bool.and_eq_true, Bool.or_eq_true, Bool.not_eq_true', decide_eq_true_eq] at hd
  exact ⟨by omega, hd.1⟩

theorem desL_memI {d : List DEntry} (h : derV d = true) {n i : Nat} (hi : i < d.length) : (i : Int) ∈ desL d n ↔ des d n i = true := by
  rw [desL_mem]
  constructor
  · rintro ⟨j, e, _, _, hj⟩
    obtain rfl : i = j := by omega
    exact hj
  · intro hd
    exact ⟨i, rfl, (des_lt h hi hd).1, hi, hd⟩

theorem remL_get : ∀ (l : List Int) (d : List DEntry) {i : Nat} {v : DEntry}, (∀ x ∈ l, 0 ≤ x) → d[i]? = some v → (remL d l)[i]? = some (if (i : Int) ∈ l then remE v else v)
  | [], d, i, v, _, hv => by simpa [remL] using hv
  | x :: l, d, i, v, hl, hv => by
    show (remL (d.set x.toNat (remE (d.getD x.toNat e0))) l)[i]? = _
    have h0 := hl x (List.mem_cons_self ..)
    have hi := get_lt hv
    by_cases e : x.toNat = i
    · have h1 : (d.set x.toNat (remE (d.getD x.toNat e0)))[i]? = some (remE v) := by
        rw [e, List.getElem?_set_self hi, getD_of hv]
      rw [remL_get l _ (fun y hy => hl y (List.mem_cons_of_mem _ hy)) h1]
      have : (i : Int) = x := by omega
      simp [this, remE]
    · have h1 : (d.set x.toNat (remE (d.getD x.toNat e0)))[i]? = some v := by rw [List.getElem?_set_ne e, hv]
      rw [remL_get l _ (fun y hy => hl y (List.mem_cons_of_mem _ hy)) h1]
      have : (i : Int) ≠ x := by omega
      simp [this]

theorem rev_get {d : List DEntry} (h : derV d = true) (n : Nat) {i : Nat} {v : DEntry} (hv : d[i]? = some v) : (remL d (desL d n))[i]? = some (if des d n i = true then remE v else v) := by
  rw [remL_get _ _ (fun x hx => (desL_in x hx).1) hv]
  simp only [desL_memI h (get_lt hv)]

theorem rev_gone {d : List DEntry} (h : derV d = true) (n : Nat) {i : Nat} (hi : i < d.length) : gone (remL d (desL d n)) i = (gone d i || des d n i) := by
  unfold gone
  rw [getD_of (rev_get h n (eget_of hi))]
  cases des d n i <;> simp [remE]

theorem rev_der {d : List DEntry} (hd : derV d = true) (n : Nat) : derV (remL d (desL d n)) = true := by
  have hd0 := hd
  rw [derV_iff] at hd ⊢
  obtain ⟨hl, hE⟩ := hd
  refine ⟨by rw [remL_length]; exact hl, fun i v' hv' => ?_⟩
  obtain ⟨v, hv⟩ := get_same (remL_length _ d) hv'
  have hi := get_lt hv
  rw [rev_get hd0 n hv] at hv'
  obtain ⟨a1, a2, a3, a4⟩ := hE i v hv
  by_cases hin : des d n i = true
  · rw [if_pos hin] at hv'
    obtain rfl := Option.some.inj hv'
    exact ⟨a1, a2, a3, fun q => by cases q⟩
  · rw [if_neg hin] at hv'
    obtain rfl := Option.some.inj hv'
    refine ⟨a1, a2, a3, fun q1 q2 => ?_⟩
    have hlt : v.2.1.toNat < d.length := by omega
    have hnd : ¬ des d n v.2.1.toNat = true := fun q => hin (by
      have hp : par d i = v.2.1 := by unfold par; rw [getD_of hv]
      have hgg : gone d i = false := by unfold gone; rw [getD_of hv]; exact q1
      have := (des_lt hd0 hlt q).1
      rw [des_eq hd0 hi, hgg, hp, q]
      have : decide (v.2.1 > (n : Int)) = true := decide_eq_true (by omega)
      rw [this]
      simp)
    rw [getD_of (rev_get hd0 n (eget_of hlt)), if_neg hnd]
    exact a4 q1 q2

theorem clr_cases (T : List DEntry) (x : Int) : (clr T x = x ∧ (0 ≤ x → gone T x.toNat = false)) ∨ (clr T x = -1 ∧ 0 ≤ x ∧ gone T x.toNat = true) := by
  unfold clr gone
  by_cases h : x ≥ 0
  · rw [decide_eq_true h]
    cases hg : (T.getD x.toNat e0).2.2.1 with
    | false => exact .inl ⟨rfl, fun _ => rfl⟩
    | true => exact .inr ⟨rfl, h, rfl⟩
  · rw [decide_eq_false h]
    exact .inl ⟨rfl, fun q => absurd q h⟩

theorem clr_pl {L : List Int} (h : plV L = true) (T : List DEntry) : plV (L.map (clr T)) = true := by
  rw [pl_iff] at h ⊢
  obtain ⟨h1, h2, h3⟩ := h
  refine ⟨by simpa using h1, fun i v hi => ?_, fun i j v hi hj h0 => ?_⟩
  · rw [List.getElem?_map, Option.map_eq_some_iff] at hi
    obtain ⟨x, hx, rfl⟩ := hi
    have := h2 i x hx
    rcases clr_cases T x with q | q
    · rw [q.1]; exact this
    · rw [q.1]; omega
  · rw [List.getElem?_map, Option.map_eq_some_iff] at hi hj
    obtain ⟨x, hx, rfl⟩ := hi
    obtain ⟨y, hy, e⟩ := hj
    rcases clr_cases T x with q | q
    · rcases clr_cases T y with r | r
      · rw [q.1, r.1] at e
        subst e
        rw [q.1] at h0
        exact h3 i j y hx hy h0
      · rw [q.1, r.1] at e; rw [q.1] at h0; omega
    · rw [q.1] at h0; omega

theorem clr_mem {L : List Int} {T : List DEntry} {i : Nat} : (i : Int) ∈ L.map (clr T) ↔ (i : Int) ∈ L ∧ gone T i = false := by
  rw [List.mem_map]
  constructor
  · rintro ⟨x, hx, e⟩
    rcases clr_cases T x with q | q
    · rw [q.1] at e
      subst e
      exact ⟨hx, by simpa using q.2 (by omega)⟩
    · rw [q.1] at e; omega
  · rintro ⟨h1, h2⟩
    refine ⟨_, h1, ?_⟩
    rcases clr_cases T (i : Int) with q | q
    · exact q.1
    · rw [Int.toNat_natCast, h2] at q; cases q.2.2

theorem revoke_valid {p : DPiece} {T : List DEntry} {L : List Int} {d : Int} (hv : kernV (p, T, L, d, ()) = true) (n : Nat) : kernV (p, remL T (desL T n), L.map (clr (remL T (desL T n))), d, ()) = true := by
  rw [kern_iff] at hv ⊢
  obtain ⟨g1, g2, g3, g4, g5, g6⟩ := hv
  refine ⟨g1, rev_der g2 n, clr_pl g3 _, g4, fun i v' hv' => ?_, fun x hx => ?_⟩
  · obtain ⟨v, hv⟩ := get_same (remL_length _ T) hv'
    have hi := get_lt hv
    obtain ⟨c1, c2⟩ := g5 i v hv
    have hgv : gone T i = v.2.2.1 := by unfold gone; rw [getD_of hv]
    rw [clr_mem, rev_gone g2 n hi, hgv, c1]
    rw [rev_get g2 n hv] at hv'
    by_cases hin : des T n i = true
    · rw [if_pos hin] at hv'
      obtain rfl := Option.some.inj hv'
      exact ⟨by simp [hin, remE], c2⟩
    · rw [if_neg hin] at hv'
      obtain rfl := Option.some.inj hv'
      refine ⟨?_, c2⟩
      rw [Bool.eq_false_iff.2 hin]
      simp
  · rw [remL_length]
    rw [List.mem_map] at hx
    obtain ⟨y, hy, rfl⟩ := hx
    have := g6 y hy
    rcases clr_cases (remL T (desL T n)) y with q | q
    · rw [q.1]; exact this
    · rw [q.1]; omega

/-! ### as many places as there are descendants -/

theorem nodup_len : ∀ {l m : List Int}, l.Nodup → (∀ x ∈ l, x ∈ m) → l.length ≤ m.length
  | [], _, _, _ => by simp
  | x :: l, m, hn, hs => by
    unfold List.Nodup at hn
    rw [List.pairwise_cons] at hn
    have hx := hs x (List.mem_cons_self ..)
    have h1 : l.length ≤ (m.erase x).length := nodup_len (m := m.erase x) hn.2 fun y hy => by
      have hne : y ≠ x := fun e => hn.1 y hy e.symm
      rw [List.mem_erase_of_ne hne]
      exact hs y (List.mem_cons_of_mem _ hy)
    have h2 := List.length_erase_of_mem hx
    have h3 := List.length_pos_of_mem hx
    rw [List.length_cons]
    omega

theorem pl_nodup {L : List Int} (h : plV L = true) (p : Int → Bool) (hp : ∀ x, p x = true → 0 ≤ x) : (L.filter p).Nodup := by
  unfold List.Nodup
  rw [List.pairwise_filter, List.pairwise_iff_getElem]
  intro i j hi hj hlt hpi hpj e
  have := pl_inj h (i := i) (j := j) (v := L[i]) (List.getElem?_eq_getElem hi) (by rw [e]; exact List.getElem?_eq_getElem hj) (hp _ hpi)
  omega

/-- is a place emptied that holds x? -/
def wasE (T : List DEntry) (n : Nat) (x : Int) : Bool := decide (0 ≤ x) && des T n x.toNat

theorem emptied_len {p : DPiece} {T : List DEntry} {L : List Int} {d : Int} (hv : kernV (p, T, L, d, ()) = true) (n : Nat) : (L.filter (wasE T n)).length = (desL T n).length := by
  have hv0 := hv
  rw [kern_iff] at hv
  obtain ⟨g1, g2, g3, g4, g5, g6⟩ := hv
  apply Nat.le_antisymm
  · refine nodup_len (pl_nodup g3 _ fun x hx => ?_) fun x hx => ?_
    · unfold wasE at hx
      simp only [Bool.and_eq_true, decide_eq_true_eq] at hx
      exact hx.1
    · rw [List.mem_filter] at hx
      unfold wasE at hx
      simp only [Bool.and_eq_true, decide_eq_true_eq] at hx
      obtain ⟨hxL, hx0, hxd⟩ := hx
      have := g6 x hxL
      rw [desL_mem]
      exact ⟨x.toNat, by omega, (des_lt g2 (by omega) hxd).1, by omega, hxd⟩
  · refine nodup_len (desL_nodup T n) fun x hx => ?_
    rw [desL_mem] at hx
    obtain ⟨i, rfl, h1, h2, h3⟩ := hx
    rw [List.mem_filter]
    have hg := (des_lt g2 h2 h3).2
    refine ⟨(g5 i _ (eget_of h2)).1.2 hg, ?_⟩
    unfold wasE
    simp [h3]

theorem clr_was {p : DPiece} {T : List DEntry} {L : List Int} {d : Int} (hv : kernV (p, T, L, d, ()) = true) (n : Nat) {x : Int} (hx : x ∈ L) : clr (remL T (desL T n)) x = bif wasE T n x then -1 else x := by
  rw [kern_iff] at hv
  obtain ⟨g1, g2, g3, g4, g5, g6⟩ := hv
  unfold clr wasE
  by_cases h : x ≥ 0
  · have h' : 0 ≤ x := h
    have hlt : x.toNat < T.length := by have := g6 x hx; omega
    have hg : gone T x.toNat = false := (g5 x.toNat _ (eget_of hlt)).1.1 (by rw [Int.toNat_of_nonneg h']; exact hx)
    have := rev_gone g2 n hlt
    rw [hg, Bool.false_or] at this
    unfold gone at this
    rw [this, decide_eq_true h]
  · rw [decide_eq_false h]
    rfl

/-! ### the strongest right -/

theorem or_nat : ∀ a b : Fin 16, IntKind.wrap .i64 (((BitVec.ofInt 64 (a.val : Int) ||| BitVec.ofInt 64 (b.val : Int)).toNat : Int)) = ((a.val ||| b.val : Nat) : Int) := by decide

def mE (n o : Int) (v : DEntry) : Bool := !v.2.2.1 && (decide (v.1.1 = n) && decide (v.1.2.1 = o))
def strN (n o : Int) (T : List DEntry) (s : Nat) : Nat := T.foldl (fun s v => bif mE n o v then s ||| v.1.2.2.1.toNat else s) s

theorem strong_ok {T : List DEntry} (hd : derV T = true) (n o : Int) : impl_StrongestLeft T n o = some ((strN n o T 0 : Nat) : Int) := by
  have hl := derV_len hd
  unfold impl_StrongestLeft impl_StrongestLeftK
  rw [impl_DerivationValid_ok T (by omega), hd]
  have := loop_list1 (nxt := impl_StrongestLeft_l0) T (fun i (s : Nat) => (n, o, (s : Int), T, (T.length : Int), (i : Int), ())) (fun _ v s => .inl (bif mE n o v then s ||| v.1.2.2.1.toNat else s)) (fun s => ((s : Int), ())) (fun _ s => s < 16) 0
    (fun i v s hs hx => ?_) (fun i v s s' hs hx e => ?_) (fun s hs => ?_) (by omega) (st := (n, o, 0, T, (T.length : Int), 0, ())) rfl
  · simp only [B7, Bool.not_true, cond_false]
    rw [this, goL_fold (fun s v => bif mE n o v then s ||| v.1.2.2.1.toNat else s)]
    rfl
  · have hli := get_lt hx
    obtain ⟨r0, r1⟩ := capV_rights ((derV_iff.1 hd).2 i v hx).1
    have ho := or_nat ⟨s, hs⟩ ⟨v.1.2.2.1.toNat, by omega⟩
    simp only [Int.toNat_of_nonneg r0] at ho
    simp only [impl_StrongestLeft_l0, impl_StrongestLeft_l0K, dec_lt hx, cond_true, nnK_nat, getK_some hx, beqI, ho, wrapS (show i < 4611686018427387904 by omega), goTo_l, mE]
    cases v.2.2.1 <;> cases decide (v.1.1 = n) <;> cases decide (v.1.2.1 = o) <;> rfl
  · cases e
    obtain ⟨r0, r1⟩ := capV_rights ((derV_iff.1 hd).2 i v hx).1
    cases mE n o v with
    | false => exact hs
    | true => exact Nat.or_lt_two_pow (n := 4) hs (show v.1.2.2.1.toNat < 2 ^ 4 by omega)
  · simp only [impl_StrongestLeft_l0, impl_StrongestLeft_l0K, dec_nlt, cond_false]

theorem str_none {n o : Int} : ∀ (T : List DEntry) (s : Nat), (∀ v ∈ T, mE n o v = false) → strN n o T s = s
  | [], _, _ => rfl
  | x :: T, s, h => by
    show strN n o T (bif mE n o x then s ||| x.1.2.2.1.toNat else s) = s
    rw [h x (List.mem_cons_self ..)]
    exact str_none T s fun v hv => h v (List.mem_cons_of_mem _ hv)

theorem str_one {n o : Int} : ∀ (T : List DEntry) (s i : Nat) (t : DEntry), T[i]? = some t → mE n o t = true → (∀ j v, T[j]? = some v → mE n o v = true → j = i) → strN n o T s = s ||| t.1.2.2.1.toNat
  | [], _, _, _, h, _, _ => by simp at h
  | x :: T, s, 0, t, h, hm, hu => by
    have hx : x = t := by simpa using h
    subst hx
    show strN n o T (bif mE n o x then s ||| x.1.2.2.1.toNat else s) = _
    rw [hm]
    refine str_none T _ fun v hv => ?_
    obtain ⟨j, hj⟩ := List.getElem?_of_mem hv
    cases hmv : mE n o v with
    | false => rfl
    | true => have := hu (j + 1) v (by simpa using hj) hmv; omega
  | x :: T, s, i + 1, t, h, hm, hu => by
    show strN n o T (bif mE n o x then s ||| x.1.2.2.1.toNat else s) = _
    have hx : mE n o x = false := by
      cases hmv : mE n o x with
      | false => rfl
      | true => have := hu 0 x (by simp) hmv; omega
    rw [hx]
    exact str_one T s i t (by simpa using h) hm fun j v hj hv => by
      have := hu (j + 1) v (by simpa using hj) hv
      omega

/-! ### deleting and revoking, in plain words -/

theorem goL_stay {α τ : Type} (c : τ) : ∀ (r : List α) (i : Nat), goL (fun (_ : Nat) (_ : α) (_ : Unit) => (.inl () : Unit ⊕ τ)) (fun _ => c) r i () = c
  | [], _ => rfl
  | _ :: r, i => goL_stay c r (i + 1)

theorem delete_ok (k : DKernel) (s : Int) (h1 : k.2.1.length ≤ 1048577) (h2 : k.2.2.1.length ≤ 1048577) (hv : kernV k = true) (f0 : 0 ≤ s) (f1 : s.toNat < k.2.2.1.length) (hp : 0 ≤ k.2.2.1.getD s.toNat 0) :
    spec_SysDelete k s = some (k.1.1, k.1.2.1, k.1.2.2.1, k.2.2.2.1, 0, rmC k.2.1 (k.2.2.1.getD s.toNat 0).toNat, k.2.2.1.set s.toNat (-1)) := by
  unfold spec_SysDelete spec_SysDeleteK
  have ek : ((k.1.1, k.1.2.1, k.1.2.2.1, ()), k.2.1, k.2.2.1, k.2.2.2.1, ()) = k := rfl
  rw [ek, spec_KernelValid_ok k h1 h2, hv]
  have hp' : k.2.2.1.getD s.toNat 0 ≥ 0 := hp
  have hx := iget_of f1
  obtain ⟨hl, hlt⟩ := place_live hv (List.mem_of_getElem? hx) hp
  have en : ((k.2.2.1.getD s.toNat 0).toNat : Int) = k.2.2.1.getD s.toNat 0 := by omega
  have r1 := spec_RemoveCap_ok k.2.1 (k.2.2.1.getD s.toNat 0).toNat (by rw [en]; exact hl)
  rw [en] at r1
  simp only [B7, Bool.not_true, cond_false, l25Copy_ok k h1 h2, slot_ok k _ h2, slotIn_iff.2 ⟨f0, f1⟩, hp', decide_true, Bool.and_self, nnK_pos f0, getK_some hx, r1]
  rw [chk_pos f1]

theorem delete_cases (k : DKernel) (s : Int) (h1 : k.2.1.length ≤ 1048577) (h2 : k.2.2.1.length ≤ 1048577) (hv : kernV k = true) :
    spec_SysDelete k s = some (kSt k 1) ∨ (0 ≤ s ∧ s.toNat < k.2.2.1.length ∧ 0 ≤ k.2.2.1.getD s.toNat 0 ∧
      spec_SysDelete k s = some (k.1.1, k.1.2.1, k.1.2.2.1, k.2.2.2.1, 0, rmC k.2.1 (k.2.2.1.getD s.toNat 0).toNat, k.2.2.1.set s.toNat (-1))) := by
  cases hh : (slotIn k.2.2.1 s && decide (k.2.2.1.getD s.toNat 0 ≥ 0)) with
  | false =>
    left
    unfold spec_SysDelete spec_SysDeleteK
    have ek : ((k.1.1, k.1.2.1, k.1.2.2.1, ()), k.2.1, k.2.2.1, k.2.2.2.1, ()) = k := rfl
    rw [ek, spec_KernelValid_ok k h1 h2, hv]
    simp only [B7, Bool.not_true, cond_false, l25Copy_ok k h1 h2, slot_ok k _ h2, hh, Bool.not_false, cond_true]
    rfl
  | true =>
    simp only [Bool.and_eq_true, decide_eq_true_eq] at hh
    obtain ⟨f0, f1⟩ := slotIn_iff.1 hh.1
    exact .inr ⟨f0, f1, hh.2, delete_ok k s h1 h2 hv f0 f1 hh.2⟩

theorem revoke_cases (k : DKernel) (s : Int) (h1 : k.2.1.length ≤ 1048577) (h2 : k.2.2.1.length ≤ 1048577) (hv : kernV k = true) :
    spec_SysRevoke k s = some (kSt k 1) ∨ (0 ≤ s ∧ s.toNat < k.2.2.1.length ∧ 0 ≤ k.2.2.1.getD s.toNat 0 ∧
      spec_SysRevoke k s = some (k.1.1, k.1.2.1, k.1.2.2.1, k.2.2.2.1, 0, remL k.2.1 (desL k.2.1 (k.2.2.1.getD s.toNat 0).toNat), k.2.2.1.map (clr (remL k.2.1 (desL k.2.1 (k.2.2.1.getD s.toNat 0).toNat))))) := by
  unfold spec_SysRevoke spec_SysRevokeK
  have ek : ((k.1.1, k.1.2.1, k.1.2.2.1, ()), k.2.1, k.2.2.1, k.2.2.2.1, ()) = k := rfl
  rw [ek, spec_KernelValid_ok k h1 h2, hv]
  simp only [B7, Bool.not_true, cond_false, l25Copy_ok k h1 h2, slot_ok k _ h2]
  cases hf : slotIn k.2.2.1 s with
  | false => exact .inl rfl
  | true =>
    obtain ⟨f0, f1⟩ := slotIn_iff.1 hf
    by_cases hp : k.2.2.1.getD s.toNat 0 ≥ 0
    · have hx := iget_of f1
      obtain ⟨hl, hlt⟩ := place_live hv (List.mem_of_getElem? hx) hp
      have en : ((k.2.2.1.getD s.toNat 0).toNat : Int) = k.2.2.1.getD s.toNat 0 := by omega
      obtain ⟨r1, r2⟩ := Revoke_same k.2.1 (k.2.2.1.getD s.toNat 0).toNat (by rw [en]; exact hl)
      rw [en] at r1 r2
      have hb : ∀ x ∈ k.2.2.1, x < ((remL k.2.1 (desL k.2.1 (k.2.2.1.getD s.toNat 0).toNat)).length : Int) := by rw [remL_length]; exact (kernV_parts hv).2.2.2.2.2
      refine .inr ⟨f0, f1, hp, ?_⟩
      simp only [hp, decide_true, Bool.and_self, Bool.not_true, cond_false, nnK_pos f0, getK_some hx, r1, B7]
      rw [spec_clear_ok _ _ _ _ _ _ _ _ _ _ h2 hb]
      rfl
    · simp only [hp, decide_false, Bool.and_false, Bool.not_false, cond_true]
      exact .inl rfl

theorem DrawSysDelete_ok (code : List Int) (hc : ∀ x ∈ code, 0 ≤ x ∧ x ≤ 255) : ∃ p1 p2 p3 d t T L, spec_DrawSysDelete code = some (p1, p2, p3, d, t, T, L) ∧ T.length ≤ 20 ∧ L.length ≤ 50 := by
  obtain ⟨b, e, hb⟩ := openE code hc
  obtain ⟨p1, p2, p3, d, b1, T, L, ek, hb1, hT, hL⟩ := l20Kernel_ok 14 b (by omega) (hb.mono (by omega))
  obtain ⟨t, b3, et, hb3⟩ := l20Site_ok p1 p2 p3 d b1 T L hb1 (by omega) (by omega)
  refine ⟨p1, p2, p3, d, t, T, L, ?_, hT, hL⟩
  unfold spec_DrawSysDelete spec_DrawSysDeleteK
  simp only [e, ek, et, B7]

theorem FnSysDelete_law (code : List Int) (h : WfD (.cons (.sl (.int .u8)) .nil) (code, ())) : laws_FnSysDelete code = some true := by
  have hc : ∀ x ∈ code, 0 ≤ x ∧ x ≤ 255 := fun x hx => h.1.2 x hx
  unfold laws_FnSysDelete laws_FnSysDeleteK
  by_cases hl : ((code.length : Int) > 1048576)
  · simp [hl]
  · obtain ⟨p1, p2, p3, d, t, T, L, hD, hT, hL⟩ := DrawSysDelete_ok code hc
    have hT' : T.length ≤ 1048577 := by omega
    have hL' : L.length ≤ 1048577 := by omega
    obtain ⟨x, e1, e2, q1, q2⟩ := SysDelete_same ((p1, p2, p3, ()), T, L, d, ()) t hT' hL'
    simp only at q1 q2
    simp only [hl, decide_false, cond_false, hD, B7, e1, e2]
    rw [sameKernel_ok ((x.1, x.2.1, x.2.2.1, ()), x.2.2.2.2.2.1, x.2.2.2.2.2.2, x.2.2.2.1, ()) (show x.2.2.2.2.2.1.length ≤ 1048577 by omega) (show x.2.2.2.2.2.2.length ≤ 1048577 by omega)]
    simp only [B7, Bool.not_true, Bool.not_false, cond_true, bne_self_eq_false, cond_false]
    cases hv : kernV ((p1, p2, p3, ()), T, L, d, ()) with
    | false =>
      have hx : x = kBad := by
        unfold spec_SysDelete spec_SysDeleteK at e1
        rw [spec_KernelValid_ok ((p1, p2, p3, ()), T, L, d, ()) hT' hL', hv] at e1
        exact (Option.some.inj e1).symm
      obtain ⟨c, ec⟩ := sameBad ((p1, p2, p3, ()), T, L, d, ())
      subst hx
      simp only [kBad, show ((3 : Int) != (0 : Int)) = true from rfl, cond_true, ec, B7, spec_KernelValid_ok ((p1, p2, p3, ()), T, L, d, ()) hT' hL', hv, live_ok]
      cases c <;> rfl
    | true =>
      rcases delete_cases ((p1, p2, p3, ()), T, L, d, ()) t hT' hL' hv with ex | ⟨t0, t1, n0, ex⟩
      · rw [e1] at ex
        obtain rfl := Option.some.inj ex
        simp only [kSt, show ((1 : Int) != (0 : Int)) = true from rfl, cond_true, sameKernel_ok ((p1, p2, p3, ()), T, L, d, ()) hT' hL', B7, Bool.not_true, cond_false, live_ok]
      · rw [e1] at ex
        obtain rfl := Option.some.inj ex
        have t1' : t.toNat < L.length := t1
        have n0' : 0 ≤ L.getD t.toNat 0 := n0
        have hv' := delete_valid hv t1' n0'
        have hLt := iget_of t1'
        obtain ⟨_, hlt⟩ := place_live hv (List.mem_of_getElem? hLt) n0'
        have gT := rmC_get (n := (L.getD t.toNat 0).toNat) (eget_of (show (L.getD t.toNat 0).toNat < T.length from hlt))
        rw [if_pos rfl] at gT
        have hlen : (L.set t.toNat (-1)).length = L.length := by simp
        simp only [show ((0 : Int) != (0 : Int)) = false from rfl, cond_false]
        generalize hX : L.set t.toNat (-1) = X at hv' hlen ⊢
        have hget : ∀ i, i < L.length → X[i]? = if i = t.toNat then some (-1) else L[i]? := fun i _ => by rw [← hX]; exact set_get t1' _ i
        generalize hY : rmC T (L.getD t.toNat 0).toNat = Y at hv' gT ⊢
        have hYl : Y.length = T.length := by rw [← hY, rmC_length]
        have hloop : loopF laws_FnSysDelete_l0 (t, 0, p1, p2, p3, T, L, d, p1, p2, p3, Y, X, d, ()) = some (.inl (t, p1, p2, p3, T, L, d, p1, p2, p3, Y, X, d, ())) := by
          have := loop_list0 (nxt := laws_FnSysDelete_l0) L (fun i (_ : Unit) => (t, (i : Int), p1, p2, p3, T, L, d, p1, p2, p3, Y, X, d, ())) (fun _ _ _ => .inl ()) (fun _ => .inl (t, p1, p2, p3, T, L, d, p1, p2, p3, Y, X, d, ())) ()
            (fun i v u hx => ?_) (fun u => ?_) (st := (t, 0, p1, p2, p3, T, L, d, p1, p2, p3, Y, X, d, ())) rfl
          · rw [this, goL_stay]
          · have hl := get_lt hx
            simp only [laws_FnSysDelete_l0, laws_FnSysDelete_l0K, dec_lt hx, cond_true, wrapS (show i < 4611686018427387904 by omega), goTo_l]
            by_cases hit : (i : Int) = t
            · rw [show ((i : Int) != t) = false by simp [hit]]
              rfl
            · rw [show ((i : Int) != t) = true by simp [hit]]
              have hg := hget i hl
              rw [if_neg (by omega), hx] at hg
              simp only [cond_true, nnK_nat, getK_some hg, getK_some hx, bne_self_eq_false, cond_false]
          · simp only [laws_FnSysDelete_l0, laws_FnSysDelete_l0K, dec_nlt, cond_false]
        have gX : X[t.toNat]? = some (-1) := by rw [hget _ t1', if_pos rfl]
        rw [hloop]
        simp only [B7, endK, impl_KernelValid_ok ((p1, p2, p3, ()), Y, X, d, ()) (show Y.length ≤ 1048577 by omega) (show X.length ≤ 1048577 by omega), hv', cond_true, nnK_pos t0, getK_some gX, beq_self_eq_true, getK_some hLt, nnK_pos n0', getK_some gT]
        rfl

end Go.Ev
