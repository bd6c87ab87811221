/-
  The law of minting.
-/
import Derived.Test.YtlogfpbcogihkaaLaw15
namespace Go.Ev
set_option linter.unusedVariables false
set_option linter.unusedSimpArgs false
set_option maxRecDepth 100000
set_option synthInstance.maxSize 2000
set_option synthInstance.maxHeartbeats 400000
/-! ### minting: the law -/

theorem and_nat : ∀ a b : Fin 16, IntKind.wrap .i64 (((BitVec.ofInt 64 (a.val : Int) &&& BitVec.ofInt 64 (b.val : Int)).toNat : Int)) = ((a.val &&& b.val : Nat) : Int) := by decide
theorem or_of_and : ∀ a c : Fin 16, a.val &&& c.val = a.val → c.val ||| a.val = c.val := by decide

theorem mint_good (c : DCap) (r b g : Int) (hv : capGood c = true) (hr : 0 ≤ r ∧ r ≤ 15) (h0 : c.1 ≠ 0) (hg : g = c.2.2.2.1 ∨ ((c.1 = 4 ∨ c.1 = 5) ∧ c.2.2.2.1 = 0 ∧ 0 ≤ g ∧ g ≤ 999)) :
    withinC (c.1, c.2.1, IntKind.wrap .i64 (((BitVec.ofInt 64 c.2.2.1 &&& BitVec.ofInt 64 r).toNat : Int)), g, ()) c = true := by
  obtain ⟨r0, r1⟩ := capV_rights hv
  have ha := and_nat ⟨c.2.2.1.toNat, by omega⟩ ⟨r.toNat, by omega⟩
  simp only [Int.toNat_of_nonneg r0, Int.toNat_of_nonneg hr.1] at ha
  rw [ha, within_iff]
  have hle : c.2.2.1.toNat &&& r.toNat ≤ c.2.2.1.toNat := Nat.and_le_left
  refine ⟨?_, hv, rfl, rfl, ?_, ?_⟩
  · unfold capGood at hv ⊢
    rw [decide_eq_false h0] at hv
    show (bif decide (c.1 = 0) then _ else _) = true
    rw [decide_eq_false h0]
    simp only [cond_false, rgt, Bool.and_eq_true, Bool.or_eq_true, decide_eq_true_eq] at hv ⊢
    obtain ⟨v1, v2, v3, v4⟩ := hv
    refine ⟨v1, v2, ⟨by omega, by omega⟩, ?_⟩
    rcases hg with rfl | ⟨k1, k2, k3, k4⟩
    · exact v4
    · exact .inr ⟨k1, k3, k4⟩
  · show (((c.2.2.1.toNat &&& r.toNat : Nat) : Int)).toNat &&& c.2.2.1.toNat = (((c.2.2.1.toNat &&& r.toNat : Nat) : Int)).toNat
    rw [Int.toNat_natCast, Nat.and_comm, ← Nat.and_assoc, Nat.and_self]
  · rcases hg with rfl | ⟨_, k2, _⟩
    · exact .inl rfl
    · exact .inr k2

theorem mint_within {c : DCap} {r b : Int} {x : DCap × Bool} (h : spec_MintCap c r b = some x) (hx : x.2 = true) : withinC x.1 c = true ∧ x.1.1 ≠ 0 := by
  unfold spec_MintCap spec_MintCapK at h
  have ec : (c.1, c.2.1, c.2.2.1, c.2.2.2.1, ()) = c := rfl
  rw [ec, spec_CapValid_ok] at h
  simp only [B7, spec_RightsValid, spec_RightsValidK, l1In_ok, spec_l2Badged, spec_l2BadgedK] at h
  cases hv : capGood c with
  | false => rw [hv] at h; obtain rfl := Option.some.inj h; cases hx
  | true =>
  rw [hv] at h
  cases h1 : (decide (0 ≤ r) && decide (r ≤ 15)) with
  | false => rw [h1] at h; obtain rfl := Option.some.inj h; cases hx
  | true =>
  rw [h1] at h
  cases h2 : (decide (0 ≤ b) && decide (b ≤ 999)) with
  | false => rw [h2] at h; obtain rfl := Option.some.inj h; cases hx
  | true =>
  rw [h2] at h
  cases h3 : (c.1 == (0 : Int)) with
  | true => rw [h3] at h; obtain rfl := Option.some.inj h; cases hx
  | false =>
  rw [h3] at h
  cases h4 : (c.1 == (1 : Int)) with
  | true => rw [h4] at h; obtain rfl := Option.some.inj h; cases hx
  | false =>
  rw [h4] at h
  cases h5 : (c.1 == (7 : Int)) with
  | true => rw [h5] at h; obtain rfl := Option.some.inj h; cases hx
  | false =>
  rw [h5] at h
  simp only [Bool.and_eq_true, decide_eq_true_eq] at h1 h2
  have h0 : c.1 ≠ 0 := by simpa using h3
  cases h6 : decide (b > 0) with
  | false =>
    rw [h6] at h
    obtain rfl := Option.some.inj h
    exact ⟨mint_good c r b c.2.2.2.1 hv h1 h0 (.inl rfl), h0⟩
  | true =>
    rw [h6] at h
    simp only [Bool.not_true, Bool.not_false, cond_true, cond_false] at h
    cases h8 : (c.2.2.2.1 != (0 : Int)) with
    | true =>
      rw [h8] at h
      cases h9 : (c.1 == (4 : Int)) <;> cases h10 : (c.1 == (5 : Int)) <;> rw [h9] at h <;> (try rw [h10] at h) <;> obtain rfl := Option.some.inj h <;> cases hx
    | false =>
      rw [h8] at h
      have hb0 : c.2.2.2.1 = 0 := by simpa using h8
      cases h9 : (c.1 == (4 : Int)) with
      | true =>
        rw [h9] at h
        obtain rfl := Option.some.inj h
        exact ⟨mint_good c r b b hv h1 h0 (.inr ⟨.inl (by simpa using h9), hb0, h2.1, h2.2⟩), h0⟩
      | false =>
        rw [h9] at h
        cases h10 : (c.1 == (5 : Int)) with
        | true =>
          rw [h10] at h
          obtain rfl := Option.some.inj h
          exact ⟨mint_good c r b b hv h1 h0 (.inr ⟨.inr (by simpa using h10), hb0, h2.1, h2.2⟩), h0⟩
        | false =>
          rw [h10] at h
          obtain rfl := Option.some.inj h
          cases hx

theorem derive_cases {d : List DEntry} {n r b : Int} (h : d.length ≤ 1048577) {x : Int × Bool × List DEntry} (e : spec_DeriveCap d n r b = some x) (hx : x.2.1 = true) :
    liveE d n = true ∧ d.length < 30 ∧ ∃ c : DCap, withinC c (d.getD n.toNat e0).1 = true ∧ c.1 ≠ 0 ∧ x = ((d.length : Int), true, d ++ [(c, n, false, ())]) := by
  unfold spec_DeriveCap spec_DeriveCapK at e
  rw [l5Live_ok d n h] at e
  cases hv : liveE d n with
  | false => rw [hv] at e; obtain rfl := Option.some.inj e; cases hx
  | true =>
    obtain ⟨hd, h0, h1, _⟩ := live_in hv
    have hl := derV_len hd
    obtain ⟨y, hy, _⟩ := Mint_same (d.getD n.toNat e0).1 r b
    rw [hv] at e
    simp only [B7, Bool.not_true, cond_false, nnK_pos h0, getK_some (eget_of h1), hy] at e
    rw [chk_pos (by simp only [bigRow]; omega)] at e
    cases hy2 : y.2 with
    | false => rw [hy2] at e; obtain rfl := Option.some.inj e; cases hx
    | true =>
      rw [hy2] at e
      simp only [Bool.not_true, Bool.not_false, cond_true] at e
      cases h30 : ((d.length : Int) == (30 : Int)) with
      | true => rw [h30] at e; obtain rfl := Option.some.inj e; cases hx
      | false =>
        rw [h30] at e
        simp only [cond_false] at e
        rw [chk_pos (by simp only [bigRow]; omega)] at e
        obtain ⟨w1, w2⟩ := mint_within hy hy2
        have hne : d.length ≠ 30 := fun q => by rw [q] at h30; cases h30
        exact ⟨rfl, by omega, y.1, w1, w2, (Option.some.inj e).symm⟩

theorem mint_cases (k : DKernel) (f t r b : Int) (h1 : k.2.1.length ≤ 1048577) (h2 : k.2.2.1.length ≤ 1048577) (hv : kernV k = true) :
    (∃ c, c ≠ 0 ∧ spec_SysMint k f t r b = some (kSt k c)) ∨ (∃ c : DCap, 0 ≤ f ∧ f.toNat < k.2.2.1.length ∧ 0 ≤ k.2.2.1.getD f.toNat 0 ∧ 0 ≤ t ∧ t.toNat < k.2.2.1.length ∧ k.2.2.1.getD t.toNat 0 < 0 ∧ k.2.1.length < 30 ∧
      withinC c (k.2.1.getD (k.2.2.1.getD f.toNat 0).toNat e0).1 = true ∧ c.1 ≠ 0 ∧
      spec_SysMint k f t r b = some (k.1.1, k.1.2.1, k.1.2.2.1, k.2.2.2.1, 0, k.2.1 ++ [(c, k.2.2.1.getD f.toNat 0, false, ())], k.2.2.1.set t.toNat (k.2.1.length : Int))) := by
  unfold spec_SysMint spec_SysMintK
  have ek : ((k.1.1, k.1.2.1, k.1.2.2.1, ()), k.2.1, k.2.2.1, k.2.2.2.1, ()) = k := rfl
  rw [ek, spec_KernelValid_ok k h1 h2, hv]
  simp only [B7, Bool.not_true, cond_false, l25Copy_ok k h1 h2, slot_ok k _ h2]
  cases hf : slotIn k.2.2.1 f with
  | false => exact .inl ⟨1, by decide, rfl⟩
  | true =>
    obtain ⟨f0, f1⟩ := slotIn_iff.1 hf
    by_cases hp : k.2.2.1.getD f.toNat 0 ≥ 0
    case neg => rw [decide_eq_false hp]; exact .inl ⟨1, by decide, rfl⟩
    rw [decide_eq_true hp]
    cases ht : slotIn k.2.2.1 t with
    | false => exact .inl ⟨1, by decide, rfl⟩
    | true =>
      obtain ⟨t0, t1⟩ := slotIn_iff.1 ht
      by_cases hq : k.2.2.1.getD t.toNat 0 ≥ 0
      · rw [decide_eq_true hq]; exact .inl ⟨1, by decide, rfl⟩
      · rw [decide_eq_false hq]
        simp only [Bool.true_and, Bool.not_true, Bool.not_false, cond_true, cond_false, Bool.and_self]
        cases ((k.2.1.length : Int) == (30 : Int)) with
        | true => exact .inl ⟨2, by decide, rfl⟩
        | false =>
          obtain ⟨x, hx1, _, _⟩ := Derive_same k.2.1 (k.2.2.1.getD f.toNat 0) r b h1
          simp only [cond_false, nnK_pos f0, getK_some (iget_of f1), hx1, B7, nnK_pos t0]
          cases hx2 : x.2.1 with
          | false => exact .inl ⟨3, by decide, rfl⟩
          | true =>
            obtain ⟨_, hlt, c, w1, w2, rfl⟩ := derive_cases h1 hx1 hx2
            refine .inr ⟨c, f0, f1, hp, t0, t1, by omega, hlt, w1, w2, ?_⟩
            simp only [Bool.not_true, cond_false]
            rw [chk_pos t1, getK_lt t1]

theorem mint_valid {p : DPiece} {T : List DEntry} {L : List Int} {d n : Int} {c : DCap} {s : Nat} (hv : kernV (p, T, L, d, ()) = true) (hs : s < L.length) (h0 : L.getD s 0 < 0) (h30 : T.length < 30)
    (n0 : 0 ≤ n) (n1 : n.toNat < T.length) (hg : (T.getD n.toNat e0).2.2.1 = false) (hc : withinC c (T.getD n.toNat e0).1 = true) (hk : c.1 ≠ 0) :
    kernV (p, T ++ [(c, n, false, ())], L.set s (T.length : Int), d, ()) = true := by
  rw [kern_iff] at hv ⊢
  obtain ⟨g1, g2, g3, g4, g5, g6⟩ := hv
  have hLs : L[s]? = some (L.getD s 0) := iget_of hs
  have hset := set_get hs (T.length : Int)
  obtain ⟨q1, q2, q3⟩ := pl_iff.1 g3
  have hw := within_iff.1 hc
  have hmem : ∀ i : Nat, i < T.length → ((i : Int) ∈ L.set s (T.length : Int) ↔ (i : Int) ∈ L) := fun i hi => by
    constructor
    · intro hm
      obtain ⟨q, hq⟩ := List.getElem?_of_mem hm
      rw [hset] at hq
      split at hq
      · have := Option.some.inj hq; omega
      · exact List.mem_of_getElem? hq
    · intro hm
      obtain ⟨q, hq⟩ := List.getElem?_of_mem hm
      by_cases hqs : q = s
      · subst hqs
        rw [hLs] at hq
        have := Option.some.inj hq
        omega
      · exact List.mem_of_getElem? (i := q) (by rw [hset, if_neg hqs]; exact hq)
  have happ : ∀ (i : Nat) (v : DEntry), (T ++ [(c, n, false, ())])[i]? = some v → (i < T.length ∧ T[i]? = some v) ∨ (i = T.length ∧ v = (c, n, false, ())) := fun i v hi => by
    rw [List.getElem?_append] at hi
    split at hi
    · rename_i hlt
      exact .inl ⟨hlt, hi⟩
    · rename_i hge
      have hz : i = T.length := by
        have := (List.getElem?_eq_some_iff.1 hi).1
        simp at this; omega
      subst hz
      rw [Nat.sub_self] at hi
      exact .inr ⟨rfl, (Option.some.inj hi).symm⟩
  have hgetL : ∀ j, j < T.length → (T ++ [(c, n, false, ())]).getD j e0 = T.getD j e0 := fun j hj => by simp only [List.getD, List.getElem?_append_left hj]
  refine ⟨g1, ?_, ?_, g4, fun i v hi => ?_, fun x hx => ?_⟩
  · have hE := derV_iff.1 g2
    rw [derV_iff]
    refine ⟨by simp; omega, fun i v hi => ?_⟩
    rcases happ i v hi with ⟨hlt, hv⟩ | ⟨rfl, rfl⟩
    · obtain ⟨a1, a2, a3, a4⟩ := hE.2 i v hv
      refine ⟨a1, a2, a3, fun b1 b2 => ?_⟩
      rw [hgetL _ (by omega)]
      exact a4 b1 b2
    · refine ⟨hw.1, hk, ⟨by show -1 ≤ n; omega, by show n ≤ _; omega⟩, fun _ _ => ?_⟩
      show ((T ++ [(c, n, false, ())]).getD n.toNat e0).2.2.1 = false ∧ withinC c ((T ++ [(c, n, false, ())]).getD n.toNat e0).1 = true
      rw [hgetL _ n1]
      exact ⟨hg, hc⟩
  · rw [pl_iff]
    refine ⟨by simpa using q1, fun i v hi => ?_, fun i j v hi hj hv0 => ?_⟩
    · rw [hset] at hi
      split at hi
      · obtain rfl := Option.some.inj hi; omega
      · exact q2 i v hi
    · rw [hset] at hi hj
      split at hi
      · split at hj
        · omega
        · obtain rfl := Option.some.inj hi
          have := g6 _ (List.mem_of_getElem? hj)
          omega
      · split at hj
        · obtain rfl := Option.some.inj hj
          have := g6 _ (List.mem_of_getElem? hi)
          omega
        · exact q3 i j v hi hj hv0
  · rcases happ i v hi with ⟨hlt, hv⟩ | ⟨rfl, rfl⟩
    · rw [hmem i hlt]
      exact g5 i v hv
    · refine ⟨⟨fun _ => rfl, fun _ => List.mem_of_getElem? (i := s) (by rw [hset, if_pos rfl])⟩, ?_⟩
      have := (g5 n.toNat _ (eget_of n1)).2
      rw [hw.2.2.2.1]
      exact this
  · rw [List.length_append, List.length_singleton]
    obtain ⟨q, hq⟩ := List.getElem?_of_mem hx
    rw [hset] at hq
    split at hq
    · obtain rfl := Option.some.inj hq; omega
    · have := g6 x (List.mem_of_getElem? hq); omega

theorem str_keep {n o : Int} {r : Nat} : ∀ (T : List DEntry) (s : Nat), s ||| r = s → strN n o T s ||| r = strN n o T s
  | [], _, h => h
  | x :: T, s, h => by
    show strN n o T (bif mE n o x then s ||| x.1.2.2.1.toNat else s) ||| r = strN n o T (bif mE n o x then s ||| x.1.2.2.1.toNat else s)
    refine str_keep T _ ?_
    cases mE n o x with
    | false => exact h
    | true =>
      show (s ||| x.1.2.2.1.toNat) ||| r = s ||| x.1.2.2.1.toNat
      rw [Nat.or_assoc, Nat.or_comm x.1.2.2.1.toNat r, ← Nat.or_assoc, h]

theorem str_in {n o : Int} {r : Nat} {t : DEntry} (hm : mE n o t = true) (hr : t.1.2.2.1.toNat ||| r = t.1.2.2.1.toNat) : ∀ (T : List DEntry) (s : Nat), t ∈ T → strN n o T s ||| r = strN n o T s
  | [], _, h => by cases h
  | x :: T, s, h => by
    rcases List.mem_cons.1 h with rfl | h
    · show strN n o T (bif mE n o t then s ||| t.1.2.2.1.toNat else s) ||| r = strN n o T (bif mE n o t then s ||| t.1.2.2.1.toNat else s)
      refine str_keep T _ ?_
      rw [hm]
      show (s ||| t.1.2.2.1.toNat) ||| r = s ||| t.1.2.2.1.toNat
      rw [Nat.or_assoc, hr]
    · exact str_in hm hr T _ h

theorem str_new {n o : Int} {T : List DEntry} {t v : DEntry} (ht : t ∈ T) (hg : t.2.2.1 = false) (hw : withinC v.1 t.1 = true) : strN n o (T ++ [v]) 0 = strN n o T 0 := by
  have e : strN n o (T ++ [v]) 0 = bif mE n o v then strN n o T 0 ||| v.1.2.2.1.toNat else strN n o T 0 := by
    unfold strN
    rw [List.foldl_append]
    rfl
  rw [e]
  cases hm : mE n o v with
  | false => rfl
  | true =>
    obtain ⟨w1, w2, w3, w4, w5, _⟩ := within_iff.1 hw
    have h1 := capV_rights w1
    have h2 := capV_rights w2
    refine str_in (t := t) ?_ (or_of_and ⟨v.1.2.2.1.toNat, by omega⟩ ⟨t.1.2.2.1.toNat, by omega⟩ w5) T 0 ht
    unfold mE at hm ⊢
    simp only [Bool.and_eq_true, Bool.not_eq_true', decide_eq_true_eq] at hm ⊢
    exact ⟨hg, w3.symm.trans hm.2.1, w4.symm.trans hm.2.2⟩

theorem l20Rights_ok (n : Int) (b : Dl20Rd) {m : Int} (hb : rdOk b m) (hm : m ≤ 100000) (hn : 0 ≤ n) : ∃ v b', spec_l20Rights n b = some (v, b') ∧ rdOk b' (m + 10) := by
  unfold spec_l20Rights spec_l20RightsK
  obtain ⟨c, b1, d1, hb1⟩ := oddE n b hb (by omega) hn
  simp only [d1, B7]
  cases c with
  | true =>
    obtain ⟨r2, b2, d2, h20, h21, hb2⟩ := pickE 2 b1 hb1 (by omega) (by omega)
    simp only [cond_true, d2, B7, nnK_pos h20]
    rw [getK_lt (show r2.toNat < [(-1 : Int), (16 : Int)].length by simp; omega)]
    exact ⟨_, b2, rfl, hb2.mono (by omega)⟩
  | false =>
    obtain ⟨r2, b2, d2, h20, h21, hb2⟩ := pickE 16 b1 hb1 (by omega) (by omega)
    obtain ⟨r3, b3, d3, h30, h31, hb3⟩ := pickE 16 b2 hb2 (by omega) (by omega)
    obtain ⟨r4, b4, d4, h40, h41, hb4⟩ := pickE 3 b3 hb3 (by omega) (by omega)
    simp only [cond_false, d2, d3, d4, B7, nnK_pos h40]
    rw [getK_lt (show r4.toNat < [r2, (15 : Int), r3].length by simp; omega)]
    exact ⟨_, b4, rfl, hb4.mono (by omega)⟩

theorem six_four : ∀ j : Fin 6, 0 ≤ [(0 : Int), (0 : Int), (1 : Int), (2 : Int), (2 : Int), (3 : Int)][j.val]'(j.isLt) ∧ ([(0 : Int), (0 : Int), (1 : Int), (2 : Int), (2 : Int), (3 : Int)][j.val]'(j.isLt)).toNat < 4 := by decide

theorem DrawSysMint_ok (code : List Int) (hc : ∀ x ∈ code, 0 ≤ x ∧ x ≤ 255) : ∃ p1 p2 p3 d f t r g T L, spec_DrawSysMint code = some (p1, p2, p3, d, f, t, r, g, T, L) ∧ T.length ≤ 20 ∧ L.length ≤ 50 := by
  obtain ⟨b, e, hb⟩ := openE code hc
  obtain ⟨p1, p2, p3, d, b1, T, L, ek, hb1, hT, hL⟩ := l20Kernel_ok 14 b (by omega) (hb.mono (by omega))
  obtain ⟨f, b2, ef, hb2⟩ := l20Site_ok p1 p2 p3 d b1 T L hb1 (by omega) (by omega)
  obtain ⟨t, b3, et, hb3⟩ := l20Site_ok p1 p2 p3 d b2 T L hb2 (by omega) (by omega)
  obtain ⟨r, b4, er, hb4⟩ := l20Rights_ok 14 b3 hb3 (by omega) (by omega)
  obtain ⟨r5, b5, d5, h50, h51, hb5⟩ := pickE 4 b4 hb4 (by omega) (by omega)
  obtain ⟨r6, b6, d6, h60, h61, hb6⟩ := pickE 6 b5 hb5 (by omega) (by omega)
  unfold spec_DrawSysMint spec_DrawSysMintK
  simp only [e, ek, ef, et, er, d5, d6, B7, nnK_pos h60]
  have hlt : r6.toNat < [(0 : Int), (0 : Int), (1 : Int), (2 : Int), (2 : Int), (3 : Int)].length := by simp; omega
  rw [getK_lt hlt]
  obtain ⟨z0, z1⟩ := six_four ⟨r6.toNat, hlt⟩
  simp only at z0 z1
  generalize [(0 : Int), (0 : Int), (1 : Int), (2 : Int), (2 : Int), (3 : Int)][r6.toNat] = z at z0 z1
  rw [nnK_pos z0, getK_lt (show z.toNat < [(0 : Int), (0 : Int), (IntKind.wrap .i64 ((1 : Int) + r5)), (-1 : Int)].length by simp; omega)]
  exact ⟨_, _, _, _, _, _, _, _, _, _, rfl, hT, hL⟩

theorem FnSysMint_law (code : List Int) (h : WfD (.cons (.sl (.int .u8)) .nil) (code, ())) : laws_FnSysMint code = some true := by
  have hc : ∀ x ∈ code, 0 ≤ x ∧ x ≤ 255 := fun x hx => h.1.2 x hx
  unfold laws_FnSysMint laws_FnSysMintK
  by_cases hl : ((code.length : Int) > 1048576)
  · simp [hl]
  · obtain ⟨p1, p2, p3, d, f, t, r, g, T, L, hD, hT, hL⟩ := DrawSysMint_ok code hc
    have hT' : T.length ≤ 1048577 := by omega
    have hL' : L.length ≤ 1048577 := by omega
    obtain ⟨x, e1, e2, q1, q2⟩ := SysMint_same ((p1, p2, p3, ()), T, L, d, ()) f t r g hT' hL'
    simp only at q1 q2
    simp only [hl, decide_false, cond_false, hD, B7, e1, e2]
    rw [sameKernel_ok ((x.1, x.2.1, x.2.2.1, ()), x.2.2.2.2.2.1, x.2.2.2.2.2.2, x.2.2.2.1, ()) (show x.2.2.2.2.2.1.length ≤ 1048577 by omega) (show x.2.2.2.2.2.2.length ≤ 1048577 by omega)]
    simp only [B7, Bool.not_true, Bool.not_false, cond_true, bne_self_eq_false, cond_false]
    cases hv : kernV ((p1, p2, p3, ()), T, L, d, ()) with
    | false =>
      have hx : x = kBad := by
        unfold spec_SysMint spec_SysMintK at e1
        rw [spec_KernelValid_ok ((p1, p2, p3, ()), T, L, d, ()) hT' hL', hv] at e1
        exact (Option.some.inj e1).symm
      obtain ⟨c, ec⟩ := sameBad ((p1, p2, p3, ()), T, L, d, ())
      subst hx
      simp only [kBad, show ((3 : Int) != (0 : Int)) = true from rfl, cond_true, ec, B7, spec_KernelValid_ok ((p1, p2, p3, ()), T, L, d, ()) hT' hL', hv, live_ok]
      cases c <;> rfl
    | true =>
      rcases mint_cases ((p1, p2, p3, ()), T, L, d, ()) f t r g hT' hL' hv with ⟨c, hc0, ex⟩ | ⟨c, f0, f1, n0, t0, t1, hneg, h30, w1, w2, ex⟩
      · rw [e1] at ex
        obtain rfl := Option.some.inj ex
        have ec : (c != (0 : Int)) = true := by simpa using hc0
        simp only [kSt, ec, cond_true, sameKernel_ok ((p1, p2, p3, ()), T, L, d, ()) hT' hL', B7, Bool.not_true, cond_false, live_ok]
      · rw [e1] at ex
        obtain rfl := Option.some.inj ex
        have f1' : f.toNat < L.length := f1
        have t1' : t.toNat < L.length := t1
        have n0' : 0 ≤ L.getD f.toNat 0 := n0
        have hneg' : L.getD t.toNat 0 < 0 := hneg
        have hLf := iget_of f1'
        obtain ⟨hli, hlt⟩ := place_live hv (List.mem_of_getElem? hLf) n0'
        have hlt' : (L.getD f.toNat 0).toNat < T.length := hlt
        have hg : (T.getD (L.getD f.toNat 0).toNat e0).2.2.1 = false := (live_in hli).2.2.2
        have hv' := mint_valid (c := c) hv t1' hneg' h30 n0' hlt' hg w1 w2
        have hder := (kern_iff.1 hv).2.1
        have hder' := (kern_iff.1 hv').2.1
        have hTf := eget_of hlt'
        have hstr := fun (n o : Int) => str_new (n := n) (o := o) (v := (c, L.getD f.toNat 0, false, ())) (List.mem_of_getElem? hTf) hg w1
        have hYl : (T ++ [(c, L.getD f.toNat 0, false, ())]).length = T.length + 1 := by simp
        have hYn : (T ++ [(c, L.getD f.toNat 0, false, ())])[T.length]? = some (c, L.getD f.toNat 0, false, ()) := by simp
        have hXl : (L.set t.toNat (T.length : Int)).length = L.length := by simp
        have hXt : (L.set t.toNat (T.length : Int))[t.toNat]? = some (T.length : Int) := by rw [set_get t1', if_pos rfl]
        have hft : f.toNat ≠ t.toNat := fun q => by rw [q] at n0'; omega
        have hXf : (L.set t.toNat (T.length : Int))[f.toNat]? = some (L.getD f.toNat 0) := by rw [set_get t1', if_neg hft, hLf]
        simp only [show ((0 : Int) != (0 : Int)) = false from rfl, cond_false]
        generalize hX : L.set t.toNat (T.length : Int) = X at *
        generalize hY : T ++ [(c, L.getD f.toNat 0, false, ())] = Y at *
        have hloop : loopF laws_FnSysMint_l0 (f, t, (T.length : Int), 0, p1, p2, p3, T, L, d, p1, p2, p3, Y, X, d, ()) = some (.inl (f, t, (T.length : Int), p1, p2, p3, T, L, d, p1, p2, p3, Y, X, d, ())) := by
          have := loop_list0 (nxt := laws_FnSysMint_l0) T (fun i (_ : Unit) => (f, t, (T.length : Int), (i : Int), p1, p2, p3, T, L, d, p1, p2, p3, Y, X, d, ())) (fun _ _ _ => .inl ()) (fun _ => .inl (f, t, (T.length : Int), p1, p2, p3, T, L, d, p1, p2, p3, Y, X, d, ())) ()
            (fun i v u hx => ?_) (fun u => ?_) (st := (f, t, (T.length : Int), 0, p1, p2, p3, T, L, d, p1, p2, p3, Y, X, d, ())) rfl
          · rw [this, goL_stay]
          · have hl := get_lt hx
            simp only [laws_FnSysMint_l0, laws_FnSysMint_l0K, dec_lt hx, cond_true, nnK_nat, getK_some hx, strong_ok hder, strong_ok hder', B7, hstr, bne_self_eq_false, cond_false, wrapS (show i < 4611686018427387904 by omega), goTo_l]
          · simp only [laws_FnSysMint_l0, laws_FnSysMint_l0K, dec_nlt, cond_false]
        rw [hloop]
        simp only [B7, endK, impl_KernelValid_ok ((p1, p2, p3, ()), Y, X, d, ()) (show Y.length ≤ 1048577 by omega) (show X.length ≤ 1048577 by omega), hv', cond_true, nnK_pos t0, getK_some hXt, beq_self_eq_true, nnK_pos f0, getK_some hXf, getK_some hLf, nnK_nat, getK_some hYn, nnK_pos n0', getK_some hTf, impl_CapWithin_ok, w1]

end Go.Ev
