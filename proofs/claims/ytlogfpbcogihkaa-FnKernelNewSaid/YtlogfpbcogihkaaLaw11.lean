/-
  New kernels give everything once: the law.
-/
import Derived.Test.YtlogfpbcogihkaaLaw10
namespace Go.Ev
set_option linter.unusedVariables false
set_option linter.unusedSimpArgs false
set_option maxRecDepth 100000
set_option synthInstance.maxSize 2000
set_option synthInstance.maxHeartbeats 400000
/-! ### as many objects as there is room for -/

theorem ret8 (b : Int) (m : Nat) (hp : pieceV (0, b, 256 * (m : Int), ()) = true) : spec_RetypePiece (0, b, 256 * (m : Int), ()) 8 1 = some (if 256 * (m : Int) + 256 ≤ szP b then ((0, b, 256 * (m : Int) + 256, ()), true, [IntKind.wrap .i64 (0 + 256 * (m : Int))]) else ((0, b, 256 * (m : Int), ()), false, [])) := by
  have hp0 := hp
  simp only [pieceV, rgt, Bool.and_eq_true, decide_eq_true_eq] at hp
  obtain ⟨⟨p1, p2⟩, ⟨p3, p4⟩, p5, p6, p7⟩ := hp
  obtain ⟨s1, s2, _⟩ := szP_range p1 p2
  have eS : IntKind.wrap .i64 ((1 : Int) * 2 ^ (min b.toNat 64)) = szP b := rfl
  have es : IntKind.wrap .i64 ((1 : Int) * 2 ^ (min (8 : Int).toNat 64)) = 256 := by decide
  have e2 : (2 : Int) ^ (min (8 : Int).toNat 64) = 256 := by decide
  have hF : (256 * (m : Int) + 256 - 1) / 256 * 256 = 256 * (m : Int) := by omega
  have ef : spec_l3First (0, b, 256 * (m : Int), ()) 8 = some (256 * (m : Int)) := by
    unfold spec_l3First spec_l3FirstK
    rw [es, chk_pos (by decide), chk_pos (by decide)]
    simp only
    rw [wrap64 (n := 256 * (m : Int) + 256) (by omega) (by omega), wrap64 (n := 256 * (m : Int) + 256 - 1) (by omega) (by omega), Int.tdiv_eq_ediv_of_nonneg (by omega), wrap64 (n := (256 * (m : Int) + 256 - 1) / 256) (by omega) (by omega), hF, wrap64 (by omega) (by omega)]
  have er : spec_PieceRoom (0, b, 256 * (m : Int), ()) 8 = some (if (szP b - 256 * (m : Int)) / 256 > 0 then (szP b - 256 * (m : Int)) / 256 else 0) := by
    unfold spec_PieceRoom spec_PieceRoomK
    simp only
    rw [spec_PieceValid_ok, hp0, eS, ef, e2, l1In_ok]
    simp only [B7, Bool.not_true, Bool.not_false, cond_true, cond_false, show (decide ((0 : Int) ≤ 8) && decide ((8 : Int) ≤ 16)) = true from by decide]
    rw [chk_pos p1, chk_pos (by decide), wrap64 (n := szP b - 256 * (m : Int)) (by omega) (by omega), Int.fdiv_eq_ediv_of_nonneg _ (by decide)]
  generalize hR : (if (szP b - 256 * (m : Int)) / 256 > 0 then (szP b - 256 * (m : Int)) / 256 else 0) = R at er
  have hR0 : 0 ≤ R ∧ (R < 1 ↔ ¬ 256 * (m : Int) + 256 ≤ szP b) := by
    subst hR
    split <;> omega
  unfold spec_RetypePiece spec_RetypePieceK
  simp only [er, ef, B7, l1In_ok, show decide (R < 0) = false from decide_eq_false (by omega), show (decide ((1 : Int) ≤ 1) && decide ((1 : Int) ≤ 40)) = true from by decide, Bool.not_true, Bool.not_false, cond_true, cond_false]
  by_cases hc : R < 1
  · rw [if_neg (hR0.2.1 hc)]
    simp only [hc, decide_true, cond_true]
  · have hfit : 256 * (m : Int) + 256 ≤ szP b := by
      by_cases q : 256 * (m : Int) + 256 ≤ szP b
      · exact q
      · exact absurd (hR0.2.2 q) hc
    rw [if_pos hfit]
    simp only [hc, decide_false, cond_false]
    have l1 : loopF spec_RetypePiece_l0 (8, 1, 256 * (m : Int), 0, (0, b, 256 * (m : Int), ()), (0, 0, 0, ()), [], ()) = some (256 * (m : Int) + 256, (0, b, 256 * (m : Int), ()), (0, 0, 0, ()), [IntKind.wrap .i64 (0 + 256 * (m : Int))], ()) := by
      have a1 : spec_RetypePiece_l0 (8, 1, 256 * (m : Int), 0, (0, b, 256 * (m : Int), ()), (0, 0, 0, ()), [], ()) = some (.inl (8, 1, 256 * (m : Int) + 256, 1, (0, b, 256 * (m : Int), ()), (0, 0, 0, ()), [IntKind.wrap .i64 (0 + 256 * (m : Int))], ())) := by
        simp only [spec_RetypePiece_l0, spec_RetypePiece_l0K, es, show decide ((0 : Int) < 1) = true from rfl, cond_true]
        rw [chk_pos (by simp [bigRow]), chk_pos (by decide), wrap64 (n := 256 * (m : Int) + 256) (by omega) (by omega)]
        rfl
      rw [loopF_inl a1]
      exact loopF_inr (by simp only [spec_RetypePiece_l0, spec_RetypePiece_l0K, show decide ((1 : Int) < 1) = false from rfl, cond_false])
    rw [l1]
    rfl

def entM (j : Nat) : DEntry := ((6, (j : Int), 15, 0, ()), -1, false, ())
def treeM (m : Nat) : List DEntry := (List.range m).map entM
def slotM (n m : Nat) : List Int := (List.range n).map fun j => if j < m then (j : Int) else -1
def kernM (b : Int) (n m : Nat) : DKernel := ((0, b, 256 * (m : Int), ()), treeM m, slotM n m, (m : Int), ())

theorem treeM_get {m i : Nat} {v : DEntry} (h : (treeM m)[i]? = some v) : i < m ∧ v = entM i := by
  unfold treeM at h
  rw [List.getElem?_map] at h
  by_cases hi : i < m
  · rw [List.getElem?_range hi] at h
    exact ⟨hi, (Option.some.inj h).symm⟩
  · rw [List.getElem?_eq_none (by simpa using hi)] at h
    cases h

theorem slotM_get {n m i : Nat} (hi : i < n) : (slotM n m)[i]? = some (if i < m then (i : Int) else -1) := by
  unfold slotM
  rw [List.getElem?_map, List.getElem?_range hi]
  rfl

theorem kernM_valid {b : Int} {n m : Nat} (hb : 0 ≤ b ∧ b ≤ 16) (hn : n ≤ 40) (hm : m ≤ n) (hm30 : m ≤ 30) (hs : 256 * (m : Int) ≤ szP b) : kernV (kernM b n m) = true := by
  obtain ⟨s1, s2, s3⟩ := szP_range hb.1 hb.2
  have h1 : pieceV (0, b, 256 * (m : Int), ()) = true := by
    unfold pieceV
    simp only [rgt, Bool.and_eq_true, decide_eq_true_eq]
    simp
    omega
  have hT : (treeM m).length = m := by simp [treeM]
  have hL : (slotM n m).length = n := by simp [slotM]
  have h2 : derV (treeM m) = true := by
    unfold derV
    rw [Bool.and_eq_true, all_zip0 (p := fun i v => entOk (treeM m) i v)]
    refine ⟨fun i v hv => ?_, by rw [hT]; simpa using hm30⟩
    obtain ⟨hi, rfl⟩ := treeM_get hv
    have h99 : (i : Int) ≤ 99 := by omega
    simp only [entM, entOk, capGood, rgt]
    have hm1 : (-1 : Int) ≤ (i : Int) - 1 := by omega
    simp [h99, hm1]
  have h3 : plV (slotM n m) = true := by
    unfold plV
    rw [Bool.and_eq_true, all_zip0 (p := fun i v => plOk (slotM n m) i v)]
    refine ⟨fun i v hv => ?_, by rw [hL]; simpa using hn⟩
    have hi : i < n := by have := get_lt hv; omega
    rw [slotM_get hi] at hv
    obtain rfl := Option.some.inj hv
    unfold plOk
    by_cases him : i < m
    · rw [if_pos him]
      simp only [rgt, Bool.and_eq_true, decide_eq_true_eq, Bool.or_eq_true]
      refine ⟨by omega, .inr ?_⟩
      unfold noneI
      rw [List.all_eq_true]
      intro y hy
      obtain ⟨q, hq, rfl⟩ := List.mem_take_iff_getElem.1 hy
      have hqn : q < n := by omega
      have := slotM_get (n := n) (m := m) hqn
      rw [List.getElem?_eq_getElem (by omega)] at this
      have e := Option.some.inj this
      rw [e, if_pos (by omega)]
      simp
      omega
    · rw [if_neg him]; rfl
  have hhas : ∀ i, i < m → hasI (slotM n m) (i : Int) = true := fun i hi => by
    unfold hasI
    rw [List.any_eq_true]
    have := slotM_get (n := n) (m := m) (show i < n by omega)
    rw [if_pos hi] at this
    exact ⟨_, List.mem_of_getElem? this, by simp⟩
  have h5 : ((treeM m).zipIdx.all fun p => knOk (kernM b n m) p.2 p.1) = true := by
    rw [all_zip0 (p := fun i v => knOk (kernM b n m) i v)]
    intro i v hv
    obtain ⟨hi, rfl⟩ := treeM_get hv
    simp only [entM, knOk, kernM, hhas i hi]
    simp
    omega
  have h6 : ((slotM n m).any fun q => decide (q ≥ ((treeM m).length : Int))) = false := by
    rw [List.any_eq_false]
    intro x hx
    obtain ⟨i, hi⟩ := List.getElem?_of_mem hx
    have hin : i < n := by have := get_lt hi; omega
    rw [slotM_get hin] at hi
    obtain rfl := Option.some.inj hi
    rw [hT]
    simp only [decide_eq_true_eq]
    split <;> omega
  have h4 : rgt (m : Int) 0 100 = true := by simp [rgt]; omega
  show (pieceV (0, b, 256 * (m : Int), ()) && (derV (treeM m) && (plV (slotM n m) && (rgt (m : Int) 0 100 && (((treeM m).zipIdx.all fun p => knOk (kernM b n m) p.2 p.1) && !((slotM n m).any fun q => decide (q ≥ ((treeM m).length : Int)))))))) = true
  rw [h1, h2, h3, h4, h5, h6]
  rfl

/-- the next object: there is room and a place, or not -/
theorem retypeM {b : Int} {n m : Nat} (hb : 0 ≤ b ∧ b ≤ 16) (hn : n ≤ 40) (hm : m ≤ n) (hm30 : m ≤ 30) (hs : 256 * (m : Int) ≤ szP b) :
    if m < n ∧ m < 30 ∧ 256 * (m : Int) + 256 ≤ szP b then impl_SysRetype (kernM b n m) 6 (m : Int) = some (0, b, 256 * ((m + 1 : Nat) : Int), ((m + 1 : Nat) : Int), 0, treeM (m + 1), slotM n (m + 1))
    else ∃ c : Int, c ≠ 0 ∧ impl_SysRetype (kernM b n m) 6 (m : Int) = some (kSt (kernM b n m) c) := by
  have hv := kernM_valid hb hn hm hm30 hs
  have hT : (treeM m).length = m := by simp [treeM]
  have hL : (slotM n m).length = n := by simp [slotM]
  obtain ⟨hpv, _⟩ := kernV_parts hv
  have hr8 := ret8 b m hpv
  obtain ⟨x, e1, e2, _⟩ := SysRetype_same (kernM b n m) 6 (m : Int) (by show (treeM m).length ≤ _; omega) (by show (slotM n m).length ≤ _; omega)
  rw [e2, ← e1]
  unfold spec_SysRetype spec_SysRetypeK
  have ek : (((kernM b n m).1.1, (kernM b n m).1.2.1, (kernM b n m).1.2.2.1, ()), (kernM b n m).2.1, (kernM b n m).2.2.1, (kernM b n m).2.2.2.1, ()) = kernM b n m := rfl
  have hob : spec_ObjectBits 6 = some 8 := rfl
  rw [ek, spec_KernelValid_ok _ (by show (treeM m).length ≤ _; omega) (by show (slotM n m).length ≤ _; omega), hv]
  simp only [B7, Bool.not_true, cond_false, l25Copy_ok (kernM b n m) (by show (treeM m).length ≤ _; omega) (by show (slotM n m).length ≤ _; omega), slot_ok (kernM b n m) _ (by show (slotM n m).length ≤ _; omega), hob]
  have hsl : slotIn (kernM b n m).2.2.1 (m : Int) = decide (m < n) := by
    show slotIn (slotM n m) (m : Int) = _
    rw [Bool.eq_iff_iff, slotIn_iff, decide_eq_true_iff, hL]
    simp
  rw [hsl]
  by_cases hmn : m < n
  · have hget : (kernM b n m).2.2.1.getD ((m : Int).toNat) 0 = -1 := by
      show (slotM n m).getD ((m : Int).toNat) 0 = -1
      have := slotM_get (n := n) (m := m) hmn
      rw [if_neg (Nat.lt_irrefl m)] at this
      simp [List.getD, this]
    rw [hget, decide_eq_true hmn]
    simp only [Bool.not_true, Bool.not_false, cond_true, cond_false, Bool.true_and, show decide ((-1 : Int) ≥ 0) = false from rfl, show decide ((8 : Int) < 0) = false from rfl]
    by_cases h30 : m < 30
    · have e30 : (((kernM b n m).2.1.length : Int) == (30 : Int)) = false := by
        show (((treeM m).length : Int) == (30 : Int)) = false
        rw [hT]
        exact beq_eq_false_iff_ne.mpr (by omega)
      have e99 : decide ((kernM b n m).2.2.2.1 > 99) = false := decide_eq_false (by show ¬ ((m : Int) > 99); omega)
      rw [e30, e99]
      simp only [Bool.not_false, cond_true, cond_false]
      rw [show ((kernM b n m).1.1, (kernM b n m).1.2.1, (kernM b n m).1.2.2.1, ()) = (0, b, 256 * (m : Int), ()) from rfl, hr8]
      by_cases hfit : 256 * (m : Int) + 256 ≤ szP b
      · rw [if_pos hfit, if_pos ⟨hmn, h30, hfit⟩]
        simp only [B7, Bool.not_true, cond_false, nnK_nat]
        have hget2 : (kernM b n m).2.2.1[m]? = some (-1) := by
          have := slotM_get (n := n) (m := m) hmn
          rwa [if_neg (Nat.lt_irrefl m)] at this
        rw [chk_pos (show m < (kernM b n m).2.2.1.length by show m < (slotM n m).length; omega), getK_some hget2, chk_pos (show (kernM b n m).2.1.length + 1 ≤ bigRow by show (treeM m).length + 1 ≤ bigRow; simp only [bigRow]; omega)]
        have t1 : (kernM b n m).2.1 ++ [((6, (kernM b n m).2.2.2.1, 15, 0, ()), -1, false, ())] = treeM (m + 1) := by
          show treeM m ++ [entM m] = treeM (m + 1)
          simp [treeM, List.range_succ]
        have t2 : (kernM b n m).2.2.1.set m ((kernM b n m).2.1.length : Int) = slotM n (m + 1) := by
          show (slotM n m).set m ((treeM m).length : Int) = slotM n (m + 1)
          rw [hT]
          apply List.ext_getElem?
          intro i
          rw [List.getElem?_set]
          by_cases hi : i < n
          · rw [slotM_get hi, slotM_get hi, hL]
            by_cases e : m = i
            · subst e; simp [hmn]
            · rw [if_neg e]
              congr 1
              by_cases q : i < m
              · rw [if_pos q, if_pos (by omega)]
              · rw [if_neg q, if_neg (by omega)]
          · have q1 : (slotM n m)[i]? = none := List.getElem?_eq_none (by omega)
            have q2 : (slotM n (m + 1))[i]? = none := List.getElem?_eq_none (by simp [slotM]; omega)
            rw [if_neg (by omega), q1, q2]
        rw [t1, t2]
        have w : IntKind.wrap .i64 ((kernM b n m).2.2.2.1 + 1) = ((m + 1 : Nat) : Int) := by
          show IntKind.wrap .i64 ((m : Int) + 1) = _
          rw [wrap64 (by omega) (by omega)]; rfl
        rw [w]
        congr 3
      · rw [if_neg hfit, if_neg (fun q => hfit q.2.2)]
        exact ⟨4, by decide, rfl⟩
    · have hm30' : m = 30 := by omega
      have e30 : (((kernM b n m).2.1.length : Int) == (30 : Int)) = true := by
        show (((treeM m).length : Int) == (30 : Int)) = true
        rw [hT, hm30']; rfl
      rw [e30, if_neg (fun q => h30 q.2.1)]
      exact ⟨2, by decide, rfl⟩
  · rw [decide_eq_false hmn, if_neg (fun q => hmn q.1)]
    exact ⟨1, by decide, rfl⟩

/-! ### the law of retyping until nothing is left -/

theorem new_loop (bits places : Int) {b : Int} {n : Nat} (hb : 0 ≤ b ∧ b ≤ 16) (hn : n ≤ 40) : ∀ (f m : Nat), m + f = 31 → m ≤ n → m ≤ 30 → 256 * (m : Int) ≤ szP b →
    ∃ (M : Nat) (r : Int), loopF laws_FnKernelNew_l0 (bits, places, (m : Int), 0, 0, b, 256 * (m : Int), treeM m, slotM n m, (m : Int), ()) = some (bits, places, (M : Int), r, ()) ∧ r ≠ 0 ∧ M ≤ n ∧ M ≤ 30 ∧ 256 * (M : Int) ≤ szP b ∧ ¬ (M < n ∧ M < 30 ∧ 256 * (M : Int) + 256 ≤ szP b)
  | 0, m, hf, _, h30, _ => by omega
  | f + 1, m, hf, hm, h30, hs => by
    have hR := retypeM hb hn hm h30 hs
    have hd : decide ((m : Int) ≤ 30) = true := decide_eq_true (by omega)
    by_cases hc : m < n ∧ m < 30 ∧ 256 * (m : Int) + 256 ≤ szP b
    · rw [if_pos hc] at hR
      have hst : laws_FnKernelNew_l0 (bits, places, (m : Int), 0, 0, b, 256 * (m : Int), treeM m, slotM n m, (m : Int), ()) = some (.inl (bits, places, ((m + 1 : Nat) : Int), 0, 0, b, 256 * ((m + 1 : Nat) : Int), treeM (m + 1), slotM n (m + 1), ((m + 1 : Nat) : Int), ())) := by
        simp only [laws_FnKernelNew_l0, laws_FnKernelNew_l0K, show ((0 : Int) == (0 : Int)) = true from rfl, cond_true, hd]
        rw [show (((0, b, 256 * (m : Int), ()), treeM m, slotM n m, (m : Int), ()) : DKernel) = kernM b n m from rfl, hR]
        simp only [B7, show ((0 : Int) == (0 : Int)) = true from rfl, cond_true, wrapS (show m < 4611686018427387904 by omega)]
      rw [loopF_inl hst]
      exact new_loop bits places hb hn f (m + 1) (by omega) (by omega) (by omega) (by omega)
    · rw [if_neg hc] at hR
      obtain ⟨c, hc0, hR⟩ := hR
      have e0 : (c == (0 : Int)) = false := beq_eq_false_iff_ne.mpr hc0
      have hst : laws_FnKernelNew_l0 (bits, places, (m : Int), 0, 0, b, 256 * (m : Int), treeM m, slotM n m, (m : Int), ()) = some (.inl (bits, places, (m : Int), c, 0, b, 256 * (m : Int), treeM m, slotM n m, (m : Int), ())) := by
        simp only [laws_FnKernelNew_l0, laws_FnKernelNew_l0K, show ((0 : Int) == (0 : Int)) = true from rfl, cond_true, hd]
        rw [show (((0, b, 256 * (m : Int), ()), treeM m, slotM n m, (m : Int), ()) : DKernel) = kernM b n m from rfl, hR]
        simp only [B7, kSt, e0, cond_false]
        rfl
      refine ⟨m, c, ?_, hc0, hm, h30, hs, hc⟩
      rw [loopF_inl hst]
      refine loopF_inr ?_
      simp only [laws_FnKernelNew_l0, laws_FnKernelNew_l0K, e0, cond_false]

theorem szP_8 {b : Int} (h0 : 8 ≤ b) (h1 : b ≤ 16) : szP b = 256 * szP (b - 8) ∧ 1 ≤ szP (b - 8) := by
  have : ∀ m : Fin 9, szP ((m.val : Int) + 8) = 256 * szP (m.val : Int) ∧ 1 ≤ szP (m.val : Int) := by decide
  have := this ⟨(b - 8).toNat, by omega⟩
  simp only [Int.toNat_of_nonneg (show 0 ≤ b - 8 by omega)] at this
  rwa [show b - 8 + 8 = b by omega] at this

theorem szP_small {b : Int} (h0 : 0 ≤ b) (h1 : b < 8) : szP b < 256 := by
  have : ∀ m : Fin 8, szP (m.val : Int) < 256 := by decide
  have := this ⟨b.toNat, by omega⟩
  simpa only [Int.toNat_of_nonneg h0] using this

theorem FnKernelNew_law (code : List Int) (h : WfD (.cons (.sl (.int .u8)) .nil) (code, ())) : laws_FnKernelNew code = some true := by
  have hc : ∀ x ∈ code, 0 ≤ x ∧ x ≤ 255 := fun x hx => h.1.2 x hx
  unfold laws_FnKernelNew laws_FnKernelNewK
  by_cases hl : ((code.length : Int) > 1048576)
  · simp [hl]
  · obtain ⟨b, n, hs, hb0, hb1, hn0, hn1⟩ := DrawNewKernel_ok code hc
    obtain ⟨g1, g2⟩ := newK_len b n
    simp only [hl, decide_false, cond_false, hs, B7, impl_NewKernel_ok, spec_NewKernel_ok, sameKernel_ok (((newK b n).1, (newK b n).2.1, (newK b n).2.2.1, ()), (newK b n).2.2.2.2.1, (newK b n).2.2.2.2.2, (newK b n).2.2.2.1, ()) (show (newK b n).2.2.2.2.1.length ≤ 1048577 by omega) (show (newK b n).2.2.2.2.2.length ≤ 1048577 by omega), Bool.not_true]
    have hslot : ∀ k : Nat, List.replicate k (-1 : Int) = slotM k 0 := fun k => by simp [slotM, List.map_const']
    by_cases hin : (0 ≤ b ∧ b ≤ 16) ∧ (0 ≤ n ∧ n ≤ 40)
    · have hk : newK b n = (0, b, 0, 0, [], List.replicate n.toNat (-1)) := by
        unfold newK
        rw [show (rgt b 0 16 && rgt n 0 40) = true by simp [rgt]; omega]
        rfl
      obtain ⟨M, r, el, hr, hM1, hM2, hM3, hM4⟩ := new_loop b n (b := b) (n := n.toNat) hin.1 (by omega) 31 0 rfl (by omega) (by omega) (by have := (szP_range hin.1.1 hin.1.2).1; simp; omega)
      rw [hk]
      simp only
      rw [hslot, show loopF laws_FnKernelNew_l0 (b, n, 0, 0, 0, b, 0, [], slotM n.toNat 0, 0, ()) = some (b, n, (M : Int), r, ()) from el]
      have er : (r != (0 : Int)) = true := by simpa using hr
      simp only [B7, er, cond_true, decide_eq_true hin.1.1, decide_eq_true hin.1.2, decide_eq_true hin.2.1, decide_eq_true hin.2.2, Bool.not_true, Bool.not_false, cond_false]
      by_cases h8 : b ≥ 8
      · obtain ⟨s1, s2⟩ := szP_8 h8 hin.1.2
        have w1 : IntKind.wrap .i64 (b - 8) = b - 8 := wrap64 (by omega) (by omega)
        have w2 : IntKind.wrap .i64 ((1 : Int) * 2 ^ (min (b - 8).toNat 64)) = szP (b - 8) := rfl
        rw [decide_eq_true h8]
        simp only [cond_true, w1, w2]
        rw [chk_pos (by omega)]
        generalize szP (b - 8) = P at s1 s2
        congr 1
        rw [beq_iff_eq]
        split <;> split <;> omega
      · have s1 := szP_small hin.1.1 (by omega)
        rw [decide_eq_false h8]
        simp only [cond_false]
        congr 1
        rw [beq_iff_eq]
        split <;> split <;> omega
    · have hk : newK b n = (0, 0, 0, 0, [], []) := by
        unfold newK
        rw [show (rgt b 0 16 && rgt n 0 40) = false by
          rw [Bool.eq_false_iff]
          intro q
          simp only [rgt, Bool.and_eq_true, decide_eq_true_eq] at q
          exact hin q]
        rfl
      obtain ⟨M, r, el, hr, hM1, _⟩ := new_loop b n (b := 0) (n := 0) ⟨by omega, by omega⟩ (by omega) 31 0 rfl (by omega) (by omega) (by decide)
      rw [hk]
      simp only
      rw [show loopF laws_FnKernelNew_l0 (b, n, 0, 0, 0, 0, 0, [], [], 0, ()) = some (b, n, (M : Int), r, ()) from el]
      have er : (r != (0 : Int)) = true := by simpa using hr
      simp only [B7, er, cond_true]
      by_cases h8 : b ≥ 8
      · rw [decide_eq_true h8]
        by_cases h16 : b ≤ 16
        · have w1 : IntKind.wrap .i64 (b - 8) = b - 8 := wrap64 (by omega) (by omega)
          rw [decide_eq_true h16, decide_eq_true (show b ≥ 0 by omega)]
          simp only [cond_true, w1]
          rw [chk_pos (by omega)]
          by_cases hn2 : n ≥ 0
          · rw [decide_eq_true hn2, decide_eq_false (show ¬ n ≤ 40 by omega)]; rfl
          · rw [decide_eq_false hn2]; rfl
        · rw [decide_eq_false h16, decide_eq_true (show b ≥ 0 by omega)]; rfl
      · rw [decide_eq_false h8]
        by_cases h0 : b ≥ 0
        · rw [decide_eq_true h0, decide_eq_true (show b ≤ 16 by omega)]
          by_cases hn2 : n ≥ 0
          · rw [decide_eq_true hn2, decide_eq_false (show ¬ n ≤ 40 by omega)]; rfl
          · rw [decide_eq_false hn2]; rfl
        · rw [decide_eq_false h0]; rfl

end Go.Ev
