/-
  Retyping: the law.
-/
import Derived.Test.YtlogfpbcogihkaaLaw12
namespace Go.Ev
set_option linter.unusedVariables false
set_option linter.unusedSimpArgs false
set_option maxRecDepth 100000
set_option synthInstance.maxSize 2000
set_option synthInstance.maxHeartbeats 400000
/-! ### retyping: the law -/

theorem retV_4 (p : DPiece) (hp : pieceV p = true) : ∃ x, spec_RetypePiece p 4 1 = some x ∧ (x.2.1 = true → pieceV x.1 = true) := by
  have hp0 := hp
  simp only [pieceV, rgt, Bool.and_eq_true, decide_eq_true_eq] at hp
  obtain ⟨⟨p1, p2⟩, ⟨p3, p4⟩, p5, p6, p7⟩ := hp
  obtain ⟨s1, s2, _⟩ := szP_range p1 p2
  have em : (p.1, p.2.1, p.2.2.1, ()) = p := rfl
  have eS : IntKind.wrap .i64 ((1 : Int) * 2 ^ (min (p.2.1).toNat 64)) = szP p.2.1 := rfl
  have es : IntKind.wrap .i64 ((1 : Int) * 2 ^ (min (4 : Int).toNat 64)) = 16 := by decide
  have e2 : (2 : Int) ^ (min (4 : Int).toNat 64) = 16 := by decide
  have ef : spec_l3First p 4 = some ((p.2.2.1 + 16 - 1) / 16 * 16) := by
    unfold spec_l3First spec_l3FirstK
    rw [es, chk_pos (by decide), chk_pos (by decide), wrap64 (n := p.2.2.1 + 16) (by omega) (by omega), wrap64 (n := p.2.2.1 + 16 - 1) (by omega) (by omega), Int.tdiv_eq_ediv_of_nonneg (by omega), wrap64 (n := (p.2.2.1 + 16 - 1) / 16) (by omega) (by omega), wrap64 (by omega) (by omega)]
  have er : spec_PieceRoom p 4 = some (if (szP p.2.1 - (p.2.2.1 + 16 - 1) / 16 * 16) / 16 > 0 then (szP p.2.1 - (p.2.2.1 + 16 - 1) / 16 * 16) / 16 else 0) := by
    unfold spec_PieceRoom spec_PieceRoomK
    rw [em, spec_PieceValid_ok, hp0, eS, ef, e2, l1In_ok]
    simp only [B7, Bool.not_true, Bool.not_false, cond_true, cond_false, show (decide ((0 : Int) ≤ 4) && decide ((4 : Int) ≤ 16)) = true from by decide]
    rw [chk_pos p1, chk_pos (by decide), wrap64 (n := szP p.2.1 - (p.2.2.1 + 16 - 1) / 16 * 16) (by omega) (by omega), Int.fdiv_eq_ediv_of_nonneg _ (by decide)]
  generalize hR : (if (szP p.2.1 - (p.2.2.1 + 16 - 1) / 16 * 16) / 16 > 0 then (szP p.2.1 - (p.2.2.1 + 16 - 1) / 16 * 16) / 16 else 0) = R at er
  have hR0 : 0 ≤ R ∧ (¬ R < 1 → (p.2.2.1 + 16 - 1) / 16 * 16 + 16 ≤ szP p.2.1) := by
    subst hR
    split <;> omega
  unfold spec_RetypePiece spec_RetypePieceK
  simp only [em, er, ef, B7, l1In_ok, show decide (R < 0) = false from decide_eq_false (by omega), show (decide ((1 : Int) ≤ 1) && decide ((1 : Int) ≤ 40)) = true from by decide, Bool.not_true, Bool.not_false, cond_true, cond_false]
  by_cases hc : R < 1
  · simp only [hc, decide_true, cond_true]
    exact ⟨_, rfl, fun h => by cases h⟩
  · simp only [hc, decide_false, cond_false]
    have l1 : loopF spec_RetypePiece_l0 (4, 1, (p.2.2.1 + 16 - 1) / 16 * 16, 0, p, (0, 0, 0, ()), [], ()) = some ((p.2.2.1 + 16 - 1) / 16 * 16 + 16, p, (0, 0, 0, ()), [IntKind.wrap .i64 (p.1 + (p.2.2.1 + 16 - 1) / 16 * 16)], ()) := by
      have a1 : spec_RetypePiece_l0 (4, 1, (p.2.2.1 + 16 - 1) / 16 * 16, 0, p, (0, 0, 0, ()), [], ()) = some (.inl (4, 1, (p.2.2.1 + 16 - 1) / 16 * 16 + 16, 1, p, (0, 0, 0, ()), [IntKind.wrap .i64 (p.1 + (p.2.2.1 + 16 - 1) / 16 * 16)], ())) := by
        simp only [spec_RetypePiece_l0, spec_RetypePiece_l0K, es, show decide ((0 : Int) < 1) = true from rfl, cond_true]
        rw [chk_pos (by simp [bigRow]), chk_pos (by decide), wrap64 (n := (p.2.2.1 + 16 - 1) / 16 * 16 + 16) (by omega) (by omega)]
        rfl
      rw [loopF_inl a1]
      exact loopF_inr (by simp only [spec_RetypePiece_l0, spec_RetypePiece_l0K, show decide ((1 : Int) < 1) = false from rfl, cond_false])
    rw [l1]
    refine ⟨_, rfl, fun _ => ?_⟩
    have := hR0.2 hc
    simp only [pieceV, rgt, Bool.and_eq_true, decide_eq_true_eq]
    exact ⟨⟨p1, p2⟩, ⟨p3, p4⟩, p5, by omega, by omega⟩

theorem retV_6 (p : DPiece) (hp : pieceV p = true) : ∃ x, spec_RetypePiece p 6 1 = some x ∧ (x.2.1 = true → pieceV x.1 = true) := by
  have hp0 := hp
  simp only [pieceV, rgt, Bool.and_eq_true, decide_eq_true_eq] at hp
  obtain ⟨⟨p1, p2⟩, ⟨p3, p4⟩, p5, p6, p7⟩ := hp
  obtain ⟨s1, s2, _⟩ := szP_range p1 p2
  have em : (p.1, p.2.1, p.2.2.1, ()) = p := rfl
  have eS : IntKind.wrap .i64 ((1 : Int) * 2 ^ (min (p.2.1).toNat 64)) = szP p.2.1 := rfl
  have es : IntKind.wrap .i64 ((1 : Int) * 2 ^ (min (6 : Int).toNat 64)) = 64 := by decide
  have e2 : (2 : Int) ^ (min (6 : Int).toNat 64) = 64 := by decide
  have ef : spec_l3First p 6 = some ((p.2.2.1 + 64 - 1) / 64 * 64) := by
    unfold spec_l3First spec_l3FirstK
    rw [es, chk_pos (by decide), chk_pos (by decide), wrap64 (n := p.2.2.1 + 64) (by omega) (by omega), wrap64 (n := p.2.2.1 + 64 - 1) (by omega) (by omega), Int.tdiv_eq_ediv_of_nonneg (by omega), wrap64 (n := (p.2.2.1 + 64 - 1) / 64) (by omega) (by omega), wrap64 (by omega) (by omega)]
  have er : spec_PieceRoom p 6 = some (if (szP p.2.1 - (p.2.2.1 + 64 - 1) / 64 * 64) / 64 > 0 then (szP p.2.1 - (p.2.2.1 + 64 - 1) / 64 * 64) / 64 else 0) := by
    unfold spec_PieceRoom spec_PieceRoomK
    rw [em, spec_PieceValid_ok, hp0, eS, ef, e2, l1In_ok]
    simp only [B7, Bool.not_true, Bool.not_false, cond_true, cond_false, show (decide ((0 : Int) ≤ 6) && decide ((6 : Int) ≤ 16)) = true from by decide]
    rw [chk_pos p1, chk_pos (by decide), wrap64 (n := szP p.2.1 - (p.2.2.1 + 64 - 1) / 64 * 64) (by omega) (by omega), Int.fdiv_eq_ediv_of_nonneg _ (by decide)]
  generalize hR : (if (szP p.2.1 - (p.2.2.1 + 64 - 1) / 64 * 64) / 64 > 0 then (szP p.2.1 - (p.2.2.1 + 64 - 1) / 64 * 64) / 64 else 0) = R at er
  have hR0 : 0 ≤ R ∧ (¬ R < 1 → (p.2.2.1 + 64 - 1) / 64 * 64 + 64 ≤ szP p.2.1) := by
    subst hR
    split <;> omega
  unfold spec_RetypePiece spec_RetypePieceK
  simp only [em, er, ef, B7, l1In_ok, show decide (R < 0) = false from decide_eq_false (by omega), show (decide ((1 : Int) ≤ 1) && decide ((1 : Int) ≤ 40)) = true from by decide, Bool.not_true, Bool.not_false, cond_true, cond_false]
  by_cases hc : R < 1
  · simp only [hc, decide_true, cond_true]
    exact ⟨_, rfl, fun h => by cases h⟩
  · simp only [hc, decide_false, cond_false]
    have l1 : loopF spec_RetypePiece_l0 (6, 1, (p.2.2.1 + 64 - 1) / 64 * 64, 0, p, (0, 0, 0, ()), [], ()) = some ((p.2.2.1 + 64 - 1) / 64 * 64 + 64, p, (0, 0, 0, ()), [IntKind.wrap .i64 (p.1 + (p.2.2.1 + 64 - 1) / 64 * 64)], ()) := by
      have a1 : spec_RetypePiece_l0 (6, 1, (p.2.2.1 + 64 - 1) / 64 * 64, 0, p, (0, 0, 0, ()), [], ()) = some (.inl (6, 1, (p.2.2.1 + 64 - 1) / 64 * 64 + 64, 1, p, (0, 0, 0, ()), [IntKind.wrap .i64 (p.1 + (p.2.2.1 + 64 - 1) / 64 * 64)], ())) := by
        simp only [spec_RetypePiece_l0, spec_RetypePiece_l0K, es, show decide ((0 : Int) < 1) = true from rfl, cond_true]
        rw [chk_pos (by simp [bigRow]), chk_pos (by decide), wrap64 (n := (p.2.2.1 + 64 - 1) / 64 * 64 + 64) (by omega) (by omega)]
        rfl
      rw [loopF_inl a1]
      exact loopF_inr (by simp only [spec_RetypePiece_l0, spec_RetypePiece_l0K, show decide ((1 : Int) < 1) = false from rfl, cond_false])
    rw [l1]
    refine ⟨_, rfl, fun _ => ?_⟩
    have := hR0.2 hc
    simp only [pieceV, rgt, Bool.and_eq_true, decide_eq_true_eq]
    exact ⟨⟨p1, p2⟩, ⟨p3, p4⟩, p5, by omega, by omega⟩

theorem retV_8 (p : DPiece) (hp : pieceV p = true) : ∃ x, spec_RetypePiece p 8 1 = some x ∧ (x.2.1 = true → pieceV x.1 = true) := by
  have hp0 := hp
  simp only [pieceV, rgt, Bool.and_eq_true, decide_eq_true_eq] at hp
  obtain ⟨⟨p1, p2⟩, ⟨p3, p4⟩, p5, p6, p7⟩ := hp
  obtain ⟨s1, s2, _⟩ := szP_range p1 p2
  have em : (p.1, p.2.1, p.2.2.1, ()) = p := rfl
  have eS : IntKind.wrap .i64 ((1 : Int) * 2 ^ (min (p.2.1).toNat 64)) = szP p.2.1 := rfl
  have es : IntKind.wrap .i64 ((1 : Int) * 2 ^ (min (8 : Int).toNat 64)) = 256 := by decide
  have e2 : (2 : Int) ^ (min (8 : Int).toNat 64) = 256 := by decide
  have ef : spec_l3First p 8 = some ((p.2.2.1 + 256 - 1) / 256 * 256) := by
    unfold spec_l3First spec_l3FirstK
    rw [es, chk_pos (by decide), chk_pos (by decide), wrap64 (n := p.2.2.1 + 256) (by omega) (by omega), wrap64 (n := p.2.2.1 + 256 - 1) (by omega) (by omega), Int.tdiv_eq_ediv_of_nonneg (by omega), wrap64 (n := (p.2.2.1 + 256 - 1) / 256) (by omega) (by omega), wrap64 (by omega) (by omega)]
  have er : spec_PieceRoom p 8 = some (if (szP p.2.1 - (p.2.2.1 + 256 - 1) / 256 * 256) / 256 > 0 then (szP p.2.1 - (p.2.2.1 + 256 - 1) / 256 * 256) / 256 else 0) := by
    unfold spec_PieceRoom spec_PieceRoomK
    rw [em, spec_PieceValid_ok, hp0, eS, ef, e2, l1In_ok]
    simp only [B7, Bool.not_true, Bool.not_false, cond_true, cond_false, show (decide ((0 : Int) ≤ 8) && decide ((8 : Int) ≤ 16)) = true from by decide]
    rw [chk_pos p1, chk_pos (by decide), wrap64 (n := szP p.2.1 - (p.2.2.1 + 256 - 1) / 256 * 256) (by omega) (by omega), Int.fdiv_eq_ediv_of_nonneg _ (by decide)]
  generalize hR : (if (szP p.2.1 - (p.2.2.1 + 256 - 1) / 256 * 256) / 256 > 0 then (szP p.2.1 - (p.2.2.1 + 256 - 1) / 256 * 256) / 256 else 0) = R at er
  have hR0 : 0 ≤ R ∧ (¬ R < 1 → (p.2.2.1 + 256 - 1) / 256 * 256 + 256 ≤ szP p.2.1) := by
    subst hR
    split <;> omega
  unfold spec_RetypePiece spec_RetypePieceK
  simp only [em, er, ef, B7, l1In_ok, show decide (R < 0) = false from decide_eq_false (by omega), show (decide ((1 : Int) ≤ 1) && decide ((1 : Int) ≤ 40)) = true from by decide, Bool.not_true, Bool.not_false, cond_true, cond_false]
  by_cases hc : R < 1
  · simp only [hc, decide_true, cond_true]
    exact ⟨_, rfl, fun h => by cases h⟩
  · simp only [hc, decide_false, cond_false]
    have l1 : loopF spec_RetypePiece_l0 (8, 1, (p.2.2.1 + 256 - 1) / 256 * 256, 0, p, (0, 0, 0, ()), [], ()) = some ((p.2.2.1 + 256 - 1) / 256 * 256 + 256, p, (0, 0, 0, ()), [IntKind.wrap .i64 (p.1 + (p.2.2.1 + 256 - 1) / 256 * 256)], ()) := by
      have a1 : spec_RetypePiece_l0 (8, 1, (p.2.2.1 + 256 - 1) / 256 * 256, 0, p, (0, 0, 0, ()), [], ()) = some (.inl (8, 1, (p.2.2.1 + 256 - 1) / 256 * 256 + 256, 1, p, (0, 0, 0, ()), [IntKind.wrap .i64 (p.1 + (p.2.2.1 + 256 - 1) / 256 * 256)], ())) := by
        simp only [spec_RetypePiece_l0, spec_RetypePiece_l0K, es, show decide ((0 : Int) < 1) = true from rfl, cond_true]
        rw [chk_pos (by simp [bigRow]), chk_pos (by decide), wrap64 (n := (p.2.2.1 + 256 - 1) / 256 * 256 + 256) (by omega) (by omega)]
        rfl
      rw [loopF_inl a1]
      exact loopF_inr (by simp only [spec_RetypePiece_l0, spec_RetypePiece_l0K, show decide ((1 : Int) < 1) = false from rfl, cond_false])
    rw [l1]
    refine ⟨_, rfl, fun _ => ?_⟩
    have := hR0.2 hc
    simp only [pieceV, rgt, Bool.and_eq_true, decide_eq_true_eq]
    exact ⟨⟨p1, p2⟩, ⟨p3, p4⟩, p5, by omega, by omega⟩

theorem retV_9 (p : DPiece) (hp : pieceV p = true) : ∃ x, spec_RetypePiece p 9 1 = some x ∧ (x.2.1 = true → pieceV x.1 = true) := by
  have hp0 := hp
  simp only [pieceV, rgt, Bool.and_eq_true, decide_eq_true_eq] at hp
  obtain ⟨⟨p1, p2⟩, ⟨p3, p4⟩, p5, p6, p7⟩ := hp
  obtain ⟨s1, s2, _⟩ := szP_range p1 p2
  have em : (p.1, p.2.1, p.2.2.1, ()) = p := rfl
  have eS : IntKind.wrap .i64 ((1 : Int) * 2 ^ (min (p.2.1).toNat 64)) = szP p.2.1 := rfl
  have es : IntKind.wrap .i64 ((1 : Int) * 2 ^ (min (9 : Int).toNat 64)) = 512 := by decide
  have e2 : (2 : Int) ^ (min (9 : Int).toNat 64) = 512 := by decide
  have ef : spec_l3First p 9 = some ((p.2.2.1 + 512 - 1) / 512 * 512) := by
    unfold spec_l3First spec_l3FirstK
    rw [es, chk_pos (by decide), chk_pos (by decide), wrap64 (n := p.2.2.1 + 512) (by omega) (by omega), wrap64 (n := p.2.2.1 + 512 - 1) (by omega) (by omega), Int.tdiv_eq_ediv_of_nonneg (by omega), wrap64 (n := (p.2.2.1 + 512 - 1) / 512) (by omega) (by omega), wrap64 (by omega) (by omega)]
  have er : spec_PieceRoom p 9 = some (if (szP p.2.1 - (p.2.2.1 + 512 - 1) / 512 * 512) / 512 > 0 then (szP p.2.1 - (p.2.2.1 + 512 - 1) / 512 * 512) / 512 else 0) := by
    unfold spec_PieceRoom spec_PieceRoomK
    rw [em, spec_PieceValid_ok, hp0, eS, ef, e2, l1In_ok]
    simp only [B7, Bool.not_true, Bool.not_false, cond_true, cond_false, show (decide ((0 : Int) ≤ 9) && decide ((9 : Int) ≤ 16)) = true from by decide]
    rw [chk_pos p1, chk_pos (by decide), wrap64 (n := szP p.2.1 - (p.2.2.1 + 512 - 1) / 512 * 512) (by omega) (by omega), Int.fdiv_eq_ediv_of_nonneg _ (by decide)]
  generalize hR : (if (szP p.2.1 - (p.2.2.1 + 512 - 1) / 512 * 512) / 512 > 0 then (szP p.2.1 - (p.2.2.1 + 512 - 1) / 512 * 512) / 512 else 0) = R at er
  have hR0 : 0 ≤ R ∧ (¬ R < 1 → (p.2.2.1 + 512 - 1) / 512 * 512 + 512 ≤ szP p.2.1) := by
    subst hR
    split <;> omega
  unfold spec_RetypePiece spec_RetypePieceK
  simp only [em, er, ef, B7, l1In_ok, show decide (R < 0) = false from decide_eq_false (by omega), show (decide ((1 : Int) ≤ 1) && decide ((1 : Int) ≤ 40)) = true from by decide, Bool.not_true, Bool.not_false, cond_true, cond_false]
  by_cases hc : R < 1
  · simp only [hc, decide_true, cond_true]
    exact ⟨_, rfl, fun h => by cases h⟩
  · simp only [hc, decide_false, cond_false]
    have l1 : loopF spec_RetypePiece_l0 (9, 1, (p.2.2.1 + 512 - 1) / 512 * 512, 0, p, (0, 0, 0, ()), [], ()) = some ((p.2.2.1 + 512 - 1) / 512 * 512 + 512, p, (0, 0, 0, ()), [IntKind.wrap .i64 (p.1 + (p.2.2.1 + 512 - 1) / 512 * 512)], ()) := by
      have a1 : spec_RetypePiece_l0 (9, 1, (p.2.2.1 + 512 - 1) / 512 * 512, 0, p, (0, 0, 0, ()), [], ()) = some (.inl (9, 1, (p.2.2.1 + 512 - 1) / 512 * 512 + 512, 1, p, (0, 0, 0, ()), [IntKind.wrap .i64 (p.1 + (p.2.2.1 + 512 - 1) / 512 * 512)], ())) := by
        simp only [spec_RetypePiece_l0, spec_RetypePiece_l0K, es, show decide ((0 : Int) < 1) = true from rfl, cond_true]
        rw [chk_pos (by simp [bigRow]), chk_pos (by decide), wrap64 (n := (p.2.2.1 + 512 - 1) / 512 * 512 + 512) (by omega) (by omega)]
        rfl
      rw [loopF_inl a1]
      exact loopF_inr (by simp only [spec_RetypePiece_l0, spec_RetypePiece_l0K, show decide ((1 : Int) < 1) = false from rfl, cond_false])
    rw [l1]
    refine ⟨_, rfl, fun _ => ?_⟩
    have := hR0.2 hc
    simp only [pieceV, rgt, Bool.and_eq_true, decide_eq_true_eq]
    exact ⟨⟨p1, p2⟩, ⟨p3, p4⟩, p5, by omega, by omega⟩

/-- a successful retyping -/
theorem retype_cases (k : DKernel) (n s : Int) (h1 : k.2.1.length ≤ 1048577) (h2 : k.2.2.1.length ≤ 1048577) (hv : kernV k = true) :
    (∃ c, c ≠ 0 ∧ spec_SysRetype k n s = some (kSt k c)) ∨ (∃ p', pieceV p' = true ∧ 0 ≤ s ∧ s.toNat < k.2.2.1.length ∧ k.2.2.1.getD s.toNat 0 < 0 ∧ k.2.1.length < 30 ∧ k.2.2.2.1 ≤ 99 ∧ 1 ≤ n ∧ n ≤ 7 ∧
      spec_SysRetype k n s = some (p'.1, p'.2.1, p'.2.2.1, k.2.2.2.1 + 1, 0, k.2.1 ++ [((n, k.2.2.2.1, 15, 0, ()), -1, false, ())], k.2.2.1.set s.toNat (k.2.1.length : Int))) := by
  unfold spec_SysRetype spec_SysRetypeK
  have ek : ((k.1.1, k.1.2.1, k.1.2.2.1, ()), k.2.1, k.2.2.1, k.2.2.2.1, ()) = k := rfl
  have ep : (k.1.1, k.1.2.1, k.1.2.2.1, ()) = k.1 := rfl
  obtain ⟨hpv, hdv, hpl, hnx, _⟩ := kernV_parts hv
  have hlen := derV_len hdv
  rw [ek, spec_KernelValid_ok k h1 h2, hv]
  simp only [B7, Bool.not_true, cond_false, l25Copy_ok k h1 h2, slot_ok k _ h2, ep]
  cases hf : slotIn k.2.2.1 s with
  | false => exact .inl ⟨1, by decide, rfl⟩
  | true =>
    obtain ⟨f0, f1⟩ := slotIn_iff.1 hf
    simp only [Bool.true_and, Bool.not_true, Bool.not_false, cond_true]
    by_cases hocc : k.2.2.1.getD s.toNat 0 ≥ 0
    · rw [decide_eq_true hocc]; exact .inl ⟨1, by decide, rfl⟩
    · rw [decide_eq_false hocc]
      simp only [cond_false]
      have hbits : (∃ r, spec_ObjectBits n = some r ∧ (r = -1 ∨ (1 ≤ n ∧ n ≤ 7) ∧ (r = 4 ∨ r = 6 ∨ r = 8 ∨ r = 9))) := by
        obtain ⟨r, e1, _, e3⟩ := bits_ok n
        refine ⟨r, e1, ?_⟩
        by_cases hn : 1 ≤ n ∧ n ≤ 7
        · exact e3.imp id fun h => ⟨hn, h⟩
        · left
          have q : ∀ m : Int, 1 ≤ m → m ≤ 7 → (n == m) = false := fun m a b => beq_eq_false_iff_ne.mpr (by omega)
          unfold spec_ObjectBits spec_ObjectBitsK at e1
          simp only [q 2 (by omega) (by omega), q 3 (by omega) (by omega), q 4 (by omega) (by omega), q 5 (by omega) (by omega), q 6 (by omega) (by omega), q 7 (by omega) (by omega), cond_false] at e1
          exact (Option.some.inj e1).symm
      obtain ⟨r, hr, hr2⟩ := hbits
      simp only [hr, B7]
      rcases hr2 with rfl | ⟨hn, hr2⟩
      · exact .inl ⟨3, by decide, rfl⟩
      · have hrn : decide (r < 0) = false := by rcases hr2 with rfl | rfl | rfl | rfl <;> rfl
        have hx : ∃ x, spec_RetypePiece k.1 r 1 = some x ∧ (x.2.1 = true → pieceV x.1 = true) := by
          rcases hr2 with rfl | rfl | rfl | rfl
          · exact retV_4 k.1 hpv
          · exact retV_6 k.1 hpv
          · exact retV_8 k.1 hpv
          · exact retV_9 k.1 hpv
        obtain ⟨x, hx1, hx2⟩ := hx
        rw [hrn, hx1]
        simp only [cond_false, B7]
        by_cases h30 : k.2.1.length = 30
        · rw [show ((k.2.1.length : Int) == (30 : Int)) = true by simp [h30]]
          exact .inl ⟨2, by decide, rfl⟩
        · rw [show ((k.2.1.length : Int) == (30 : Int)) = false from beq_eq_false_iff_ne.mpr (by omega)]
          simp only [Bool.not_false, cond_true]
          by_cases h99 : k.2.2.2.1 > 99
          · rw [decide_eq_true h99]; exact .inl ⟨2, by decide, rfl⟩
          · rw [decide_eq_false h99]
            simp only [cond_false]
            cases hok : x.2.1 with
            | false => exact .inl ⟨4, by decide, rfl⟩
            | true =>
              refine .inr ⟨x.1, hx2 hok, f0, f1, by omega, by omega, by omega, hn.1, hn.2, ?_⟩
              simp only [Bool.not_true, cond_false, nnK_pos f0]
              rw [chk_pos f1, getK_lt f1, chk_pos (by simp only [bigRow]; omega), wrap64 (n := k.2.2.2.1 + 1) (by omega) (by omega)]

theorem retype_valid {p p' : DPiece} {T : List DEntry} {L : List Int} {d n : Int} {s : Nat} (hv : kernV (p, T, L, d, ()) = true) (hp : pieceV p' = true) (hs : s < L.length) (h0 : L.getD s 0 < 0) (h30 : T.length < 30) (h99 : d ≤ 99) (n1 : 1 ≤ n) (n7 : n ≤ 7) :
    kernV (p', T ++ [((n, d, 15, 0, ()), -1, false, ())], L.set s (T.length : Int), d + 1, ()) = true := by
  obtain ⟨g1, g2, g3, g4, g5, g6⟩ := kernV_parts hv
  simp only at g1 g2 g3 g4 g5 g6
  have hLs : L[s]? = some (L.getD s 0) := iget_of hs
  obtain ⟨q1, q2, q3⟩ := pl_iff.1 g3
  have hset : ∀ i, (L.set s (T.length : Int))[i]? = if i = s then some (T.length : Int) else L[i]? := fun i => by
    rw [List.getElem?_set]
    by_cases h : s = i
    · subst h; simp [hs]
    · rw [if_neg h, if_neg (Ne.symm h)]
  have hpl : plV (L.set s (T.length : Int)) = true := by
    rw [pl_iff]
    refine ⟨by simpa using q1, fun i v hi => ?_, fun i j v hi hj hv0 => ?_⟩
    · rw [hset] at hi
      split at hi
      · obtain rfl := Option.some.inj hi; omega
      · exact q2 i v hi
    · rw [hset] at hi hj
      split at hi
      · split at hj
        · omega
        · obtain rfl := Option.some.inj hi
          have := g6 _ (List.mem_of_getElem? hj)
          omega
      · split at hj
        · obtain rfl := Option.some.inj hj
          have := g6 _ (List.mem_of_getElem? hi)
          omega
        · exact q3 i j v hi hj hv0
  have hder : derV (T ++ [((n, d, 15, 0, ()), -1, false, ())]) = true := by
    have g2' := g2
    unfold derV at g2' ⊢
    rw [Bool.and_eq_true, all_zip0 (p := fun i v => entOk T i v)] at g2'
    rw [Bool.and_eq_true, all_zip0 (p := fun i v => entOk (T ++ [((n, d, 15, 0, ()), -1, false, ())]) i v)]
    refine ⟨fun i v hi => ?_, by simp; omega⟩
    rw [List.getElem?_append] at hi
    split at hi
    · rename_i hlt
      have h1 := g2'.1 i v hi
      unfold entOk at h1 ⊢
      have hrg : rgt v.2.1 (-1) ((i : Int) - 1) = true := by
        simp only [Bool.and_eq_true] at h1; exact h1.2.2.1
      by_cases hp0 : v.2.1 ≥ 0
      · have hlt2 : v.2.1.toNat < T.length := by
          simp only [rgt, Bool.and_eq_true, decide_eq_true_eq] at hrg
          omega
        have : (T ++ [((n, d, 15, 0, ()), -1, false, ())]).getD v.2.1.toNat e0 = T.getD v.2.1.toNat e0 := by
          simp only [List.getD, List.getElem?_append_left hlt2]
        rw [this]; exact h1
      · rw [decide_eq_false hp0] at h1 ⊢
        simp only [Bool.not_false, Bool.or_true, Bool.true_or, Bool.and_true] at h1 ⊢
        exact h1
    · rename_i hge
      have hz : i - T.length = 0 := by
        have := (List.getElem?_eq_some_iff.1 hi).1
        simp at this; omega
      rw [hz] at hi
      obtain rfl := Option.some.inj hi
      have a1 : decide (n = 0) = false := decide_eq_false (by omega)
      have a2 : (-1 : Int) ≤ (i : Int) - 1 := by omega
      simp only [entOk, capGood, rgt, a1]
      simp [n1, n7, g4.1, h99, a2]
  have hhas : ∀ i : Nat, i < T.length → hasI (L.set s (T.length : Int)) (i : Int) = hasI L (i : Int) := fun i hi => by
    unfold hasI
    rw [Bool.eq_iff_iff, List.any_eq_true, List.any_eq_true]
    constructor
    · rintro ⟨x, hx, e⟩
      obtain ⟨q, hq⟩ := List.getElem?_of_mem hx
      rw [hset] at hq
      split at hq
      · obtain rfl := Option.some.inj hq
        have : (T.length : Int) = (i : Int) := by simpa using e
        omega
      · exact ⟨x, List.mem_of_getElem? hq, e⟩
    · rintro ⟨x, hx, e⟩
      obtain ⟨q, hq⟩ := List.getElem?_of_mem hx
      have hx0 : x = (i : Int) := by simpa using e
      by_cases hqs : q = s
      · subst hqs
        rw [hLs] at hq
        have := Option.some.inj hq
        omega
      · exact ⟨x, List.mem_of_getElem? (i := q) (by rw [hset, if_neg hqs]; exact hq), e⟩
  have hlast : hasI (L.set s (T.length : Int)) (T.length : Int) = true := by
    unfold hasI
    rw [List.any_eq_true]
    exact ⟨_, List.mem_of_getElem? (i := s) (by rw [hset, if_pos rfl]), by simp⟩
  have h5 : ((T ++ [((n, d, 15, 0, ()), -1, false, ())]).zipIdx.all fun q => knOk (p', T ++ [((n, d, 15, 0, ()), -1, false, ())], L.set s (T.length : Int), d + 1, ()) q.2 q.1) = true := by
    rw [all_zip0 (p := fun i v => knOk (p', T ++ [((n, d, 15, 0, ()), -1, false, ())], L.set s (T.length : Int), d + 1, ()) i v)]
    intro i v hi
    rw [List.getElem?_append] at hi
    split at hi
    · rename_i hlt
      have h1 := g5 i v hi
      unfold knOk at h1 ⊢
      simp only [hhas i hlt] at h1 ⊢
      simp only [Bool.and_eq_true, Bool.not_eq_true', decide_eq_false_iff_not] at h1 ⊢
      exact ⟨h1.1, by omega⟩
    · rename_i hge
      have hz : i = T.length := by
        have := (List.getElem?_eq_some_iff.1 hi).1
        simp at this; omega
      subst hz
      rw [Nat.sub_self] at hi
      obtain rfl := Option.some.inj hi
      unfold knOk
      simp only [hlast]
      simp
      omega
  have h6 : ((L.set s (T.length : Int)).any fun q => decide (q ≥ ((T ++ [((n, d, 15, 0, ()), -1, false, ())] : List DEntry).length : Int))) = false := by
    rw [List.any_eq_false]
    intro x hx
    obtain ⟨q, hq⟩ := List.getElem?_of_mem hx
    rw [hset] at hq
    simp only [decide_eq_true_eq, List.length_append, List.length_singleton]
    split at hq
    · obtain rfl := Option.some.inj hq; omega
    · have := g6 x (List.mem_of_getElem? hq); omega
  have h4 : rgt (d + 1) 0 100 = true := by simp [rgt]; omega
  show (pieceV p' && (derV (T ++ [((n, d, 15, 0, ()), -1, false, ())]) && (plV _ && (rgt (d + 1) 0 100 && (((T ++ [((n, d, 15, 0, ()), -1, false, ())]).zipIdx.all fun q => knOk (p', T ++ [((n, d, 15, 0, ()), -1, false, ())], L.set s (T.length : Int), d + 1, ()) q.2 q.1) && !((L.set s (T.length : Int)).any fun q => decide (q ≥ ((T ++ [((n, d, 15, 0, ()), -1, false, ())] : List DEntry).length : Int)))))))) = true
  rw [hp, hder, hpl, h4, h5, h6]
  rfl

theorem strongest0 {T : List DEntry} {n d : Int} (hd : derV T = true) (hT : T.length ≤ 1048577) (h : ∀ v ∈ T, v.1.2.1 < d) : impl_StrongestLeft T n d = some 0 := by
  unfold impl_StrongestLeft impl_StrongestLeftK
  rw [impl_DerivationValid_ok T hT, hd]
  have := loop_list0 (nxt := impl_StrongestLeft_l0) T (fun i (_ : Unit) => (n, d, 0, T, (T.length : Int), (i : Int), ())) (fun _ _ _ => .inl ()) (fun _ => ((0 : Int), ())) ()
    (fun i v u hx => ?_) (fun u => ?_) (st := (n, d, 0, T, (T.length : Int), 0, ())) rfl
  · simp only [B7, Bool.not_true, cond_false]
    rw [this]
    have : ∀ (r : List DEntry) (i : Nat), goL (fun (_ : Nat) (_ : DEntry) (_ : Unit) => (.inl () : Unit ⊕ (Int × Unit))) (fun _ => ((0 : Int), ())) r i () = ((0 : Int), ()) := by
      intro r
      induction r with
      | nil => intro i; rfl
      | cons x r ih => intro i; exact ih (i + 1)
    rw [this]
    rfl
  · have hl := get_lt hx
    have ho := h v (List.mem_of_getElem? hx)
    have e : (v.1.2.1 == d) = false := beq_eq_false_iff_ne.mpr (by omega)
    simp only [impl_StrongestLeft_l0, impl_StrongestLeft_l0K, dec_lt hx, cond_true, nnK_nat, getK_some hx, e, cond_false, wrapS (show i < 4611686018427387904 by omega), goTo_l]
    cases v.2.2.1 <;> cases (v.1.1 == n) <;> rfl
  · simp only [impl_StrongestLeft_l0, impl_StrongestLeft_l0K, dec_nlt, cond_false]

theorem FnSysRetype_law (code : List Int) (h : WfD (.cons (.sl (.int .u8)) .nil) (code, ())) : laws_FnSysRetype code = some true := by
  have hc : ∀ x ∈ code, 0 ≤ x ∧ x ≤ 255 := fun x hx => h.1.2 x hx
  unfold laws_FnSysRetype laws_FnSysRetypeK
  by_cases hl : ((code.length : Int) > 1048576)
  · simp [hl]
  · obtain ⟨b, e, hb⟩ := openE code hc
    obtain ⟨p1, p2, p3, d, b1, T, L, ek, hb1, hT, hL⟩ := l20Kernel_ok 14 b (by omega) (hb.mono (by omega))
    obtain ⟨r4, b2, d4, _, _, hb2⟩ := pickT 8 b1 hb1 (by omega)
    obtain ⟨t, b3, et, hb3⟩ := l20Site_ok p1 p2 p3 d b2 T L hb2 (by omega) (by omega)
    have hT' : T.length ≤ 1048577 := by omega
    have hL' : L.length ≤ 1048577 := by omega
    generalize hn : IntKind.wrap .i64 (1 + r4) = n
    have hD : spec_DrawSysRetype code = some (p1, p2, p3, d, n, t, T, L) := by
      unfold spec_DrawSysRetype spec_DrawSysRetypeK
      simp only [e, ek, d4, et, B7, hn]
    obtain ⟨x, e1, e2, q1, q2⟩ := SysRetype_same ((p1, p2, p3, ()), T, L, d, ()) n t hT' hL'
    simp only at q1 q2
    simp only [hl, decide_false, cond_false, hD, B7, e1, e2]
    rw [sameKernel_ok ((x.1, x.2.1, x.2.2.1, ()), x.2.2.2.2.2.1, x.2.2.2.2.2.2, x.2.2.2.1, ()) (show x.2.2.2.2.2.1.length ≤ 1048577 by omega) (show x.2.2.2.2.2.2.length ≤ 1048577 by omega)]
    simp only [B7, Bool.not_true, Bool.not_false, cond_true, bne_self_eq_false, cond_false]
    cases hv : kernV ((p1, p2, p3, ()), T, L, d, ()) with
    | false =>
      have hx : x = kBad := by
        unfold spec_SysRetype spec_SysRetypeK at e1
        rw [spec_KernelValid_ok ((p1, p2, p3, ()), T, L, d, ()) hT' hL', hv] at e1
        exact (Option.some.inj e1).symm
      obtain ⟨c, ec⟩ := sameBad ((p1, p2, p3, ()), T, L, d, ())
      subst hx
      simp only [kBad, show ((3 : Int) != (0 : Int)) = true from rfl, cond_true, ec, B7, spec_KernelValid_ok ((p1, p2, p3, ()), T, L, d, ()) hT' hL', hv, live_ok]
      cases c <;> rfl
    | true =>
      rcases retype_cases ((p1, p2, p3, ()), T, L, d, ()) n t hT' hL' hv with ⟨c, hc0, ex⟩ | ⟨p', hp', t0, t1, hneg, h30, h99, n1, n7, ex⟩
      · rw [e1] at ex
        obtain rfl := Option.some.inj ex
        have ec : (c != (0 : Int)) = true := by simpa using hc0
        simp only [kSt, ec, cond_true, sameKernel_ok ((p1, p2, p3, ()), T, L, d, ()) hT' hL', B7, Bool.not_true, cond_false, live_ok]
      · rw [e1] at ex
        obtain rfl := Option.some.inj ex
        have hv' := retype_valid hv hp' t1 hneg h30 h99 n1 n7
        obtain ⟨_, hder, _, _, hkn, _⟩ := kernV_parts hv
        have hobj : ∀ v ∈ T, v.1.2.1 < d := fun v hvm => by
          obtain ⟨i, hi⟩ := List.getElem?_of_mem hvm
          have := hkn i v hi
          unfold knOk at this
          simp only [Bool.and_eq_true, Bool.not_eq_true', decide_eq_false_iff_not] at this
          omega
        have ep : ((p'.1, p'.2.1, p'.2.2.1, ()) : DPiece) = p' := rfl
        have w1 : IntKind.wrap .i64 ((T.length : Int) + 1) = (T.length : Int) + 1 := wrap64 (by omega) (by omega)
        have hlen : ((((T ++ [((n, d, 15, 0, ()), -1, false, ())] : List DEntry).length : Nat) : Int) == (T.length : Int) + 1) = true := by simp
        have htake : (T ++ [((n, d, 15, 0, ()), -1, false, ())] : List DEntry).take T.length = T := by simp
        have gs : (L.set t.toNat (T.length : Int))[t.toNat]? = some (T.length : Int) := by rw [List.getElem?_set, if_pos rfl, if_pos (show t.toNat < L.length from t1)]
        have ge : (T ++ [((n, d, 15, 0, ()), -1, false, ())] : List DEntry)[T.length]? = some ((n, d, 15, 0, ()), -1, false, ()) := by simp
        simp only [show ((0 : Int) != (0 : Int)) = false from rfl, cond_false, ep, impl_KernelValid_ok (p', T ++ [((n, d, 15, 0, ()), -1, false, ())], L.set t.toNat (T.length : Int), d + 1, ()) (show (T ++ [((n, d, 15, 0, ()), -1, false, ())] : List DEntry).length ≤ 1048577 by simp; omega) (show (L.set t.toNat (T.length : Int)).length ≤ 1048577 by simp; omega), hv', B7, cond_true, w1, hlen,
          chk_pos (show T.length ≤ (T ++ [((n, d, 15, 0, ()), -1, false, ())] : List DEntry).length by rw [List.length_append]; omega), htake, sameTree_ok T hT', nnK_pos t0, getK_some gs, beq_self_eq_true, getK_some ge, decide_true, Bool.and_self, strongest0 hder hT' hobj]

end Go.Ev
