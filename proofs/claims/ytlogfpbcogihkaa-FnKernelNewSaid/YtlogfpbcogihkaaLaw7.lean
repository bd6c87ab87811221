/-
  Retyping.
-/
import Derived.Test.YtlogfpbcogihkaaLaw3
namespace Go.Ev
set_option linter.unusedVariables false
set_option linter.unusedSimpArgs false
set_option maxRecDepth 100000
set_option synthInstance.maxSize 2000
set_option synthInstance.maxHeartbeats 400000

/-! ### retyping -/

theorem szP_dvd (s : Int) (hs : ∀ m : Fin 17, s ≤ szP (m.val : Int) → szP (m.val : Int) % s = 0) {n : Int} (h0 : 0 ≤ n) (h1 : n ≤ 16) (h : s ≤ szP n) : szP n % s = 0 := by
  have := hs ⟨n.toNat, by omega⟩
  simp only [Int.toNat_of_nonneg h0] at this
  exact this h

theorem retype_4 (p : DPiece) (hp : pieceV p = true) : ∃ x y, spec_RetypePiece p 4 1 = some x ∧ impl_RetypePiece p 4 1 = some y ∧ x.1 = y.1 ∧ x.2.1 = y.2.1 := by
  have hp0 := hp
  simp only [pieceV, rgt, Bool.and_eq_true, decide_eq_true_eq] at hp
  obtain ⟨⟨p1, p2⟩, ⟨p3, p4⟩, p5, p6, p7⟩ := hp
  obtain ⟨s1, s2, _⟩ := szP_range p1 p2
  have hd : 16 ≤ szP p.2.1 → szP p.2.1 % 16 = 0 := szP_dvd 16 (by decide) p1 p2
  have hb : 16 ≤ szP p.2.1 → p.1 % 16 = 0 := fun h => Int.emod_eq_zero_of_dvd (Int.dvd_trans (Int.dvd_of_emod_eq_zero (hd h)) (Int.dvd_of_tmod_eq_zero p5))
  have em : (p.1, p.2.1, p.2.2.1, ()) = p := rfl
  have eS : IntKind.wrap .i64 ((1 : Int) * 2 ^ (min (p.2.1).toNat 64)) = szP p.2.1 := rfl
  have es : IntKind.wrap .i64 ((1 : Int) * 2 ^ (min (4 : Int).toNat 64)) = 16 := by decide
  have e2 : (2 : Int) ^ (min (4 : Int).toNat 64) = 16 := by decide
  have ef : spec_l3First p 4 = some ((p.2.2.1 + 16 - 1) / 16 * 16) := by
    unfold spec_l3First spec_l3FirstK
    rw [es, chk_pos (by decide), chk_pos (by decide), wrap64 (n := p.2.2.1 + 16) (by omega) (by omega), wrap64 (n := p.2.2.1 + 16 - 1) (by omega) (by omega), Int.tdiv_eq_ediv_of_nonneg (by omega), wrap64 (n := (p.2.2.1 + 16 - 1) / 16) (by omega) (by omega), wrap64 (by omega) (by omega)]
  have er : spec_PieceRoom p 4 = some (if (szP p.2.1 - (p.2.2.1 + 16 - 1) / 16 * 16) / 16 > 0 then (szP p.2.1 - (p.2.2.1 + 16 - 1) / 16 * 16) / 16 else 0) := by
    unfold spec_PieceRoom spec_PieceRoomK
    rw [em, spec_PieceValid_ok, hp0, eS, ef, e2, l1In_ok]
    simp only [B7, Bool.not_true, Bool.not_false, cond_true, cond_false, show (decide ((0 : Int) ≤ 4) && decide ((4 : Int) ≤ 16)) = true from by decide]
    rw [chk_pos p1, chk_pos (by decide), wrap64 (n := szP p.2.1 - (p.2.2.1 + 16 - 1) / 16 * 16) (by omega) (by omega), Int.fdiv_eq_ediv_of_nonneg _ (by decide)]
  have ei : impl_Piece_room p 4 = some ((p.1 + p.2.2.1 + 16 - 1) / 16 * 16, (if p.1 + szP p.2.1 - (p.1 + p.2.2.1 + 16 - 1) / 16 * 16 > 0 then p.1 + szP p.2.1 - (p.1 + p.2.2.1 + 16 - 1) / 16 * 16 else 0) / 16) := by
    unfold impl_Piece_room impl_Piece_roomK
    simp only [eS, es]
    rw [chk_pos (by decide), chk_pos (by decide), chk_pos p1, chk_pos (by decide), wrap64 (n := p.1 + p.2.2.1) (by omega) (by omega), wrap64 (n := p.1 + p.2.2.1 + 16) (by omega) (by omega), wrap64 (n := p.1 + p.2.2.1 + 16 - 1) (by omega) (by omega), Int.tdiv_eq_ediv_of_nonneg (a := p.1 + p.2.2.1 + 16 - 1) (by omega),
      wrap64 (n := (p.1 + p.2.2.1 + 16 - 1) / 16) (by omega) (by omega), wrap64 (n := (p.1 + p.2.2.1 + 16 - 1) / 16 * 16) (by omega) (by omega), wrap64 (n := p.1 + szP p.2.1) (by omega) (by omega), wrap64 (n := p.1 + szP p.2.1 - (p.1 + p.2.2.1 + 16 - 1) / 16 * 16) (by omega) (by omega)]
    rw [Int.tdiv_eq_ediv_of_nonneg (by split <;> omega), wrap64 (by split <;> omega) (by split <;> omega)]
  generalize hR : (if (szP p.2.1 - (p.2.2.1 + 16 - 1) / 16 * 16) / 16 > 0 then (szP p.2.1 - (p.2.2.1 + 16 - 1) / 16 * 16) / 16 else 0) = R at er
  generalize hQ : (if p.1 + szP p.2.1 - (p.1 + p.2.2.1 + 16 - 1) / 16 * 16 > 0 then p.1 + szP p.2.1 - (p.1 + p.2.2.1 + 16 - 1) / 16 * 16 else 0) / 16 = Q at ei
  have hRQ : (R < 1 ↔ Q < 1) ∧ 0 ≤ R ∧ (¬ R < 1 → (p.1 + p.2.2.1 + 16 - 1) / 16 * 16 = p.1 + (p.2.2.1 + 16 - 1) / 16 * 16) := by
    subst hR hQ
    by_cases hsz : 16 ≤ szP p.2.1
    · have h1 := hd hsz
      have h2 := hb hsz
      refine ⟨?_, by split <;> omega, fun _ => by omega⟩
      constructor
      · intro q; split at q <;> split <;> omega
      · intro q; split at q <;> split <;> omega
    · refine ⟨?_, by split <;> omega, fun q => ?_⟩
      · constructor
        · intro q; split <;> omega
        · intro q; split <;> omega
      · exfalso; split at q <;> omega
  obtain ⟨h1, h2, h3⟩ := hRQ
  unfold spec_RetypePiece spec_RetypePieceK impl_RetypePiece impl_RetypePieceK
  simp only [em, er, ei, ef, impl_PieceValid_ok, hp0, B7, l1In_ok, in_ok, show decide (R < 0) = false from decide_eq_false (by omega), show (decide ((1 : Int) ≤ 1) && decide ((1 : Int) ≤ 40)) = true from by decide, show (decide ((0 : Int) ≤ 4) && decide ((4 : Int) ≤ 16)) = true from by decide, Bool.not_true, Bool.not_false, cond_true, cond_false]
  by_cases hc : R < 1
  · have hc2 := h1.1 hc
    simp only [hc, hc2, decide_true, cond_true]
    exact ⟨_, _, rfl, rfl, rfl, rfl⟩
  · have hc2 : ¬ Q < 1 := fun q => hc (h1.2 q)
    have h4 := h3 hc
    simp only [hc, hc2, decide_false, cond_false]
    have l1 : loopF spec_RetypePiece_l0 (4, 1, (p.2.2.1 + 16 - 1) / 16 * 16, 0, p, (0, 0, 0, ()), [], ()) = some ((p.2.2.1 + 16 - 1) / 16 * 16 + 16, p, (0, 0, 0, ()), [IntKind.wrap .i64 (p.1 + (p.2.2.1 + 16 - 1) / 16 * 16)], ()) := by
      have a1 : spec_RetypePiece_l0 (4, 1, (p.2.2.1 + 16 - 1) / 16 * 16, 0, p, (0, 0, 0, ()), [], ()) = some (.inl (4, 1, (p.2.2.1 + 16 - 1) / 16 * 16 + 16, 1, p, (0, 0, 0, ()), [IntKind.wrap .i64 (p.1 + (p.2.2.1 + 16 - 1) / 16 * 16)], ())) := by
        simp only [spec_RetypePiece_l0, spec_RetypePiece_l0K, es, show decide ((0 : Int) < 1) = true from rfl, cond_true]
        rw [chk_pos (by simp [bigRow]), chk_pos (by decide), wrap64 (n := (p.2.2.1 + 16 - 1) / 16 * 16 + 16) (by omega) (by omega)]
        rfl
      rw [loopF_inl a1]
      exact loopF_inr (by simp only [spec_RetypePiece_l0, spec_RetypePiece_l0K, show decide ((1 : Int) < 1) = false from rfl, cond_false])
    rw [l1, nnK_pos (show (0 : Int) ≤ 1 by decide), chk_pos (by decide)]
    have l2 : ∃ zs, loopF impl_RetypePiece_l0 (4, 1, (p.1 + p.2.2.1 + 16 - 1) / 16 * 16, ((List.replicate (1 : Int).toNat (0 : Int)).length : Int), 0, p, (0, 0, 0, ()), List.replicate (1 : Int).toNat (0 : Int), ()) = some (4, 1, (p.1 + p.2.2.1 + 16 - 1) / 16 * 16, p, (0, 0, 0, ()), zs, ()) := by
      refine ⟨[IntKind.wrap .i64 ((p.1 + p.2.2.1 + 16 - 1) / 16 * 16 + (IntKind.wrap .i64 (0 * 2 ^ (min (4 : Int).toNat 64))))], ?_⟩
      have a1 : impl_RetypePiece_l0 (4, 1, (p.1 + p.2.2.1 + 16 - 1) / 16 * 16, 1, 0, p, (0, 0, 0, ()), [0], ()) = some (.inl (4, 1, (p.1 + p.2.2.1 + 16 - 1) / 16 * 16, 1, 1, p, (0, 0, 0, ()), [IntKind.wrap .i64 ((p.1 + p.2.2.1 + 16 - 1) / 16 * 16 + (IntKind.wrap .i64 (0 * 2 ^ (min (4 : Int).toNat 64))))], ())) := by
        simp only [impl_RetypePiece_l0, impl_RetypePiece_l0K, show decide ((0 : Int) < 1) = true from rfl, cond_true]
        rw [chk_pos (by decide), show (0 : Int) = ((0 : Nat) : Int) from rfl, nnK_nat, chk_pos (by decide)]
        rfl
      show loopF impl_RetypePiece_l0 (4, 1, (p.1 + p.2.2.1 + 16 - 1) / 16 * 16, 1, 0, p, (0, 0, 0, ()), [0], ()) = _
      rw [loopF_inl a1]
      exact loopF_inr (by simp only [impl_RetypePiece_l0, impl_RetypePiece_l0K, show decide ((1 : Int) < 1) = false from rfl, cond_false])
    obtain ⟨zs, l2⟩ := l2
    rw [l2]
    simp only [B7]
    rw [chk_pos (by decide), es, wrap64 (n := (p.1 + p.2.2.1 + 16 - 1) / 16 * 16 + 16) (by omega) (by omega), wrap64 (n := (p.1 + p.2.2.1 + 16 - 1) / 16 * 16 + 16 - p.1) (by omega) (by omega)]
    refine ⟨_, _, rfl, rfl, ?_, rfl⟩
    simp only [Prod.mk.injEq, true_and, and_true]
    omega

theorem retype_6 (p : DPiece) (hp : pieceV p = true) : ∃ x y, spec_RetypePiece p 6 1 = some x ∧ impl_RetypePiece p 6 1 = some y ∧ x.1 = y.1 ∧ x.2.1 = y.2.1 := by
  have hp0 := hp
  simp only [pieceV, rgt, Bool.and_eq_true, decide_eq_true_eq] at hp
  obtain ⟨⟨p1, p2⟩, ⟨p3, p4⟩, p5, p6, p7⟩ := hp
  obtain ⟨s1, s2, _⟩ := szP_range p1 p2
  have hd : 64 ≤ szP p.2.1 → szP p.2.1 % 64 = 0 := szP_dvd 64 (by decide) p1 p2
  have hb : 64 ≤ szP p.2.1 → p.1 % 64 = 0 := fun h => Int.emod_eq_zero_of_dvd (Int.dvd_trans (Int.dvd_of_emod_eq_zero (hd h)) (Int.dvd_of_tmod_eq_zero p5))
  have em : (p.1, p.2.1, p.2.2.1, ()) = p := rfl
  have eS : IntKind.wrap .i64 ((1 : Int) * 2 ^ (min (p.2.1).toNat 64)) = szP p.2.1 := rfl
  have es : IntKind.wrap .i64 ((1 : Int) * 2 ^ (min (6 : Int).toNat 64)) = 64 := by decide
  have e2 : (2 : Int) ^ (min (6 : Int).toNat 64) = 64 := by decide
  have ef : spec_l3First p 6 = some ((p.2.2.1 + 64 - 1) / 64 * 64) := by
    unfold spec_l3First spec_l3FirstK
    rw [es, chk_pos (by decide), chk_pos (by decide), wrap64 (n := p.2.2.1 + 64) (by omega) (by omega), wrap64 (n := p.2.2.1 + 64 - 1) (by omega) (by omega), Int.tdiv_eq_ediv_of_nonneg (by omega), wrap64 (n := (p.2.2.1 + 64 - 1) / 64) (by omega) (by omega), wrap64 (by omega) (by omega)]
  have er : spec_PieceRoom p 6 = some (if (szP p.2.1 - (p.2.2.1 + 64 - 1) / 64 * 64) / 64 > 0 then (szP p.2.1 - (p.2.2.1 + 64 - 1) / 64 * 64) / 64 else 0) := by
    unfold spec_PieceRoom spec_PieceRoomK
    rw [em, spec_PieceValid_ok, hp0, eS, ef, e2, l1In_ok]
    simp only [B7, Bool.not_true, Bool.not_false, cond_true, cond_false, show (decide ((0 : Int) ≤ 6) && decide ((6 : Int) ≤ 16)) = true from by decide]
    rw [chk_pos p1, chk_pos (by decide), wrap64 (n := szP p.2.1 - (p.2.2.1 + 64 - 1) / 64 * 64) (by omega) (by omega), Int.fdiv_eq_ediv_of_nonneg _ (by decide)]
  have ei : impl_Piece_room p 6 = some ((p.1 + p.2.2.1 + 64 - 1) / 64 * 64, (if p.1 + szP p.2.1 - (p.1 + p.2.2.1 + 64 - 1) / 64 * 64 > 0 then p.1 + szP p.2.1 - (p.1 + p.2.2.1 + 64 - 1) / 64 * 64 else 0) / 64) := by
    unfold impl_Piece_room impl_Piece_roomK
    simp only [eS, es]
    rw [chk_pos (by decide), chk_pos (by decide), chk_pos p1, chk_pos (by decide), wrap64 (n := p.1 + p.2.2.1) (by omega) (by omega), wrap64 (n := p.1 + p.2.2.1 + 64) (by omega) (by omega), wrap64 (n := p.1 + p.2.2.1 + 64 - 1) (by omega) (by omega), Int.tdiv_eq_ediv_of_nonneg (a := p.1 + p.2.2.1 + 64 - 1) (by omega),
      wrap64 (n := (p.1 + p.2.2.1 + 64 - 1) / 64) (by omega) (by omega), wrap64 (n := (p.1 + p.2.2.1 + 64 - 1) / 64 * 64) (by omega) (by omega), wrap64 (n := p.1 + szP p.2.1) (by omega) (by omega), wrap64 (n := p.1 + szP p.2.1 - (p.1 + p.2.2.1 + 64 - 1) / 64 * 64) (by omega) (by omega)]
    rw [Int.tdiv_eq_ediv_of_nonneg (by split <;> omega), wrap64 (by split <;> omega) (by split <;> omega)]
  generalize hR : (if (szP p.2.1 - (p.2.2.1 + 64 - 1) / 64 * 64) / 64 > 0 then (szP p.2.1 - (p.2.2.1 + 64 - 1) / 64 * 64) / 64 else 0) = R at er
  generalize hQ : (if p.1 + szP p.2.1 - (p.1 + p.2.2.1 + 64 - 1) / 64 * 64 > 0 then p.1 + szP p.2.1 - (p.1 + p.2.2.1 + 64 - 1) / 64 * 64 else 0) / 64 = Q at ei
  have hRQ : (R < 1 ↔ Q < 1) ∧ 0 ≤ R ∧ (¬ R < 1 → (p.1 + p.2.2.1 + 64 - 1) / 64 * 64 = p.1 + (p.2.2.1 + 64 - 1) / 64 * 64) := by
    subst hR hQ
    by_cases hsz : 64 ≤ szP p.2.1
    · have h1 := hd hsz
      have h2 := hb hsz
      refine ⟨?_, by split <;> omega, fun _ => by omega⟩
      constructor
      · intro q; split at q <;> split <;> omega
      · intro q; split at q <;> split <;> omega
    · refine ⟨?_, by split <;> omega, fun q => ?_⟩
      · constructor
        · intro q; split <;> omega
        · intro q; split <;> omega
      · exfalso; split at q <;> omega
  obtain ⟨h1, h2, h3⟩ := hRQ
  unfold spec_RetypePiece spec_RetypePieceK impl_RetypePiece impl_RetypePieceK
  simp only [em, er, ei, ef, impl_PieceValid_ok, hp0, B7, l1In_ok, in_ok, show decide (R < 0) = false from decide_eq_false (by omega), show (decide ((1 : Int) ≤ 1) && decide ((1 : Int) ≤ 40)) = true from by decide, show (decide ((0 : Int) ≤ 6) && decide ((6 : Int) ≤ 16)) = true from by decide, Bool.not_true, Bool.not_false, cond_true, cond_false]
  by_cases hc : R < 1
  · have hc2 := h1.1 hc
    simp only [hc, hc2, decide_true, cond_true]
    exact ⟨_, _, rfl, rfl, rfl, rfl⟩
  · have hc2 : ¬ Q < 1 := fun q => hc (h1.2 q)
    have h4 := h3 hc
    simp only [hc, hc2, decide_false, cond_false]
    have l1 : loopF spec_RetypePiece_l0 (6, 1, (p.2.2.1 + 64 - 1) / 64 * 64, 0, p, (0, 0, 0, ()), [], ()) = some ((p.2.2.1 + 64 - 1) / 64 * 64 + 64, p, (0, 0, 0, ()), [IntKind.wrap .i64 (p.1 + (p.2.2.1 + 64 - 1) / 64 * 64)], ()) := by
      have a1 : spec_RetypePiece_l0 (6, 1, (p.2.2.1 + 64 - 1) / 64 * 64, 0, p, (0, 0, 0, ()), [], ()) = some (.inl (6, 1, (p.2.2.1 + 64 - 1) / 64 * 64 + 64, 1, p, (0, 0, 0, ()), [IntKind.wrap .i64 (p.1 + (p.2.2.1 + 64 - 1) / 64 * 64)], ())) := by
        simp only [spec_RetypePiece_l0, spec_RetypePiece_l0K, es, show decide ((0 : Int) < 1) = true from rfl, cond_true]
        rw [chk_pos (by simp [bigRow]), chk_pos (by decide), wrap64 (n := (p.2.2.1 + 64 - 1) / 64 * 64 + 64) (by omega) (by omega)]
        rfl
      rw [loopF_inl a1]
      exact loopF_inr (by simp only [spec_RetypePiece_l0, spec_RetypePiece_l0K, show decide ((1 : Int) < 1) = false from rfl, cond_false])
    rw [l1, nnK_pos (show (0 : Int) ≤ 1 by decide), chk_pos (by decide)]
    have l2 : ∃ zs, loopF impl_RetypePiece_l0 (6, 1, (p.1 + p.2.2.1 + 64 - 1) / 64 * 64, ((List.replicate (1 : Int).toNat (0 : Int)).length : Int), 0, p, (0, 0, 0, ()), List.replicate (1 : Int).toNat (0 : Int), ()) = some (6, 1, (p.1 + p.2.2.1 + 64 - 1) / 64 * 64, p, (0, 0, 0, ()), zs, ()) := by
      refine ⟨[IntKind.wrap .i64 ((p.1 + p.2.2.1 + 64 - 1) / 64 * 64 + (IntKind.wrap .i64 (0 * 2 ^ (min (6 : Int).toNat 64))))], ?_⟩
      have a1 : impl_RetypePiece_l0 (6, 1, (p.1 + p.2.2.1 + 64 - 1) / 64 * 64, 1, 0, p, (0, 0, 0, ()), [0], ()) = some (.inl (6, 1, (p.1 + p.2.2.1 + 64 - 1) / 64 * 64, 1, 1, p, (0, 0, 0, ()), [IntKind.wrap .i64 ((p.1 + p.2.2.1 + 64 - 1) / 64 * 64 + (IntKind.wrap .i64 (0 * 2 ^ (min (6 : Int).toNat 64))))], ())) := by
        simp only [impl_RetypePiece_l0, impl_RetypePiece_l0K, show decide ((0 : Int) < 1) = true from rfl, cond_true]
        rw [chk_pos (by decide), show (0 : Int) = ((0 : Nat) : Int) from rfl, nnK_nat, chk_pos (by decide)]
        rfl
      show loopF impl_RetypePiece_l0 (6, 1, (p.1 + p.2.2.1 + 64 - 1) / 64 * 64, 1, 0, p, (0, 0, 0, ()), [0], ()) = _
      rw [loopF_inl a1]
      exact loopF_inr (by simp only [impl_RetypePiece_l0, impl_RetypePiece_l0K, show decide ((1 : Int) < 1) = false from rfl, cond_false])
    obtain ⟨zs, l2⟩ := l2
    rw [l2]
    simp only [B7]
    rw [chk_pos (by decide), es, wrap64 (n := (p.1 + p.2.2.1 + 64 - 1) / 64 * 64 + 64) (by omega) (by omega), wrap64 (n := (p.1 + p.2.2.1 + 64 - 1) / 64 * 64 + 64 - p.1) (by omega) (by omega)]
    refine ⟨_, _, rfl, rfl, ?_, rfl⟩
    simp only [Prod.mk.injEq, true_and, and_true]
    omega

theorem retype_8 (p : DPiece) (hp : pieceV p = true) : ∃ x y, spec_RetypePiece p 8 1 = some x ∧ impl_RetypePiece p 8 1 = some y ∧ x.1 = y.1 ∧ x.2.1 = y.2.1 := by
  have hp0 := hp
  simp only [pieceV, rgt, Bool.and_eq_true, decide_eq_true_eq] at hp
  obtain ⟨⟨p1, p2⟩, ⟨p3, p4⟩, p5, p6, p7⟩ := hp
  obtain ⟨s1, s2, _⟩ := szP_range p1 p2
  have hd : 256 ≤ szP p.2.1 → szP p.2.1 % 256 = 0 := szP_dvd 256 (by decide) p1 p2
  have hb : 256 ≤ szP p.2.1 → p.1 % 256 = 0 := fun h => Int.emod_eq_zero_of_dvd (Int.dvd_trans (Int.dvd_of_emod_eq_zero (hd h)) (Int.dvd_of_tmod_eq_zero p5))
  have em : (p.1, p.2.1, p.2.2.1, ()) = p := rfl
  have eS : IntKind.wrap .i64 ((1 : Int) * 2 ^ (min (p.2.1).toNat 64)) = szP p.2.1 := rfl
  have es : IntKind.wrap .i64 ((1 : Int) * 2 ^ (min (8 : Int).toNat 64)) = 256 := by decide
  have e2 : (2 : Int) ^ (min (8 : Int).toNat 64) = 256 := by decide
  have ef : spec_l3First p 8 = some ((p.2.2.1 + 256 - 1) / 256 * 256) := by
    unfold spec_l3First spec_l3FirstK
    rw [es, chk_pos (by decide), chk_pos (by decide), wrap64 (n := p.2.2.1 + 256) (by omega) (by omega), wrap64 (n := p.2.2.1 + 256 - 1) (by omega) (by omega), Int.tdiv_eq_ediv_of_nonneg (by omega), wrap64 (n := (p.2.2.1 + 256 - 1) / 256) (by omega) (by omega), wrap64 (by omega) (by omega)]
  have er : spec_PieceRoom p 8 = some (if (szP p.2.1 - (p.2.2.1 + 256 - 1) / 256 * 256) / 256 > 0 then (szP p.2.1 - (p.2.2.1 + 256 - 1) / 256 * 256) / 256 else 0) := by
    unfold spec_PieceRoom spec_PieceRoomK
    rw [em, spec_PieceValid_ok, hp0, eS, ef, e2, l1In_ok]
    simp only [B7, Bool.not_true, Bool.not_false, cond_true, cond_false, show (decide ((0 : Int) ≤ 8) && decide ((8 : Int) ≤ 16)) = true from by decide]
    rw [chk_pos p1, chk_pos (by decide), wrap64 (n := szP p.2.1 - (p.2.2.1 + 256 - 1) / 256 * 256) (by omega) (by omega), Int.fdiv_eq_ediv_of_nonneg _ (by decide)]
  have ei : impl_Piece_room p 8 = some ((p.1 + p.2.2.1 + 256 - 1) / 256 * 256, (if p.1 + szP p.2.1 - (p.1 + p.2.2.1 + 256 - 1) / 256 * 256 > 0 then p.1 + szP p.2.1 - (p.1 + p.2.2.1 + 256 - 1) / 256 * 256 else 0) / 256) := by
    unfold impl_Piece_room impl_Piece_roomK
    simp only [eS, es]
    rw [chk_pos (by decide), chk_pos (by decide), chk_pos p1, chk_pos (by decide), wrap64 (n := p.1 + p.2.2.1) (by omega) (by omega), wrap64 (n := p.1 + p.2.2.1 + 256) (by omega) (by omega), wrap64 (n := p.1 + p.2.2.1 + 256 - 1) (by omega) (by omega), Int.tdiv_eq_ediv_of_nonneg (a := p.1 + p.2.2.1 + 256 - 1) (by omega),
      wrap64 (n := (p.1 + p.2.2.1 + 256 - 1) / 256) (by omega) (by omega), wrap64 (n := (p.1 + p.2.2.1 + 256 - 1) / 256 * 256) (by omega) (by omega), wrap64 (n := p.1 + szP p.2.1) (by omega) (by omega), wrap64 (n := p.1 + szP p.2.1 - (p.1 + p.2.2.1 + 256 - 1) / 256 * 256) (by omega) (by omega)]
    rw [Int.tdiv_eq_ediv_of_nonneg (by split <;> omega), wrap64 (by split <;> omega) (by split <;> omega)]
  generalize hR : (if (szP p.2.1 - (p.2.2.1 + 256 - 1) / 256 * 256) / 256 > 0 then (szP p.2.1 - (p.2.2.1 + 256 - 1) / 256 * 256) / 256 else 0) = R at er
  generalize hQ : (if p.1 + szP p.2.1 - (p.1 + p.2.2.1 + 256 - 1) / 256 * 256 > 0 then p.1 + szP p.2.1 - (p.1 + p.2.2.1 + 256 - 1) / 256 * 256 else 0) / 256 = Q at ei
  have hRQ : (R < 1 ↔ Q < 1) ∧ 0 ≤ R ∧ (¬ R < 1 → (p.1 + p.2.2.1 + 256 - 1) / 256 * 256 = p.1 + (p.2.2.1 + 256 - 1) / 256 * 256) := by
    subst hR hQ
    by_cases hsz : 256 ≤ szP p.2.1
    · have h1 := hd hsz
      have h2 := hb hsz
      refine ⟨?_, by split <;> omega, fun _ => by omega⟩
      constructor
      · intro q; split at q <;> split <;> omega
      · intro q; split at q <;> split <;> omega
    · refine ⟨?_, by split <;> omega, fun q => ?_⟩
      · constructor
        · intro q; split <;> omega
        · intro q; split <;> omega
      · exfalso; split at q <;> omega
  obtain ⟨h1, h2, h3⟩ := hRQ
  unfold spec_RetypePiece spec_RetypePieceK impl_RetypePiece impl_RetypePieceK
  simp only [em, er, ei, ef, impl_PieceValid_ok, hp0, B7, l1In_ok, in_ok, show decide (R < 0) = false from decide_eq_false (by omega), show (decide ((1 : Int) ≤ 1) && decide ((1 : Int) ≤ 40)) = true from by decide, show (decide ((0 : Int) ≤ 8) && decide ((8 : Int) ≤ 16)) = true from by decide, Bool.not_true, Bool.not_false, cond_true, cond_false]
  by_cases hc : R < 1
  · have hc2 := h1.1 hc
    simp only [hc, hc2, decide_true, cond_true]
    exact ⟨_, _, rfl, rfl, rfl, rfl⟩
  · have hc2 : ¬ Q < 1 := fun q => hc (h1.2 q)
    have h4 := h3 hc
    simp only [hc, hc2, decide_false, cond_false]
    have l1 : loopF spec_RetypePiece_l0 (8, 1, (p.2.2.1 + 256 - 1) / 256 * 256, 0, p, (0, 0, 0, ()), [], ()) = some ((p.2.2.1 + 256 - 1) / 256 * 256 + 256, p, (0, 0, 0, ()), [IntKind.wrap .i64 (p.1 + (p.2.2.1 + 256 - 1) / 256 * 256)], ()) := by
      have a1 : spec_RetypePiece_l0 (8, 1, (p.2.2.1 + 256 - 1) / 256 * 256, 0, p, (0, 0, 0, ()), [], ()) = some (.inl (8, 1, (p.2.2.1 + 256 - 1) / 256 * 256 + 256, 1, p, (0, 0, 0, ()), [IntKind.wrap .i64 (p.1 + (p.2.2.1 + 256 - 1) / 256 * 256)], ())) := by
        simp only [spec_RetypePiece_l0, spec_RetypePiece_l0K, es, show decide ((0 : Int) < 1) = true from rfl, cond_true]
        rw [chk_pos (by simp [bigRow]), chk_pos (by decide), wrap64 (n := (p.2.2.1 + 256 - 1) / 256 * 256 + 256) (by omega) (by omega)]
        rfl
      rw [loopF_inl a1]
      exact loopF_inr (by simp only [spec_RetypePiece_l0, spec_RetypePiece_l0K, show decide ((1 : Int) < 1) = false from rfl, cond_false])
    rw [l1, nnK_pos (show (0 : Int) ≤ 1 by decide), chk_pos (by decide)]
    have l2 : ∃ zs, loopF impl_RetypePiece_l0 (8, 1, (p.1 + p.2.2.1 + 256 - 1) / 256 * 256, ((List.replicate (1 : Int).toNat (0 : Int)).length : Int), 0, p, (0, 0, 0, ()), List.replicate (1 : Int).toNat (0 : Int), ()) = some (8, 1, (p.1 + p.2.2.1 + 256 - 1) / 256 * 256, p, (0, 0, 0, ()), zs, ()) := by
      refine ⟨[IntKind.wrap .i64 ((p.1 + p.2.2.1 + 256 - 1) / 256 * 256 + (IntKind.wrap .i64 (0 * 2 ^ (min (8 : Int).toNat 64))))], ?_⟩
      have a1 : impl_RetypePiece_l0 (8, 1, (p.1 + p.2.2.1 + 256 - 1) / 256 * 256, 1, 0, p, (0, 0, 0, ()), [0], ()) = some (.inl (8, 1, (p.1 + p.2.2.1 + 256 - 1) / 256 * 256, 1, 1, p, (0, 0, 0, ()), [IntKind.wrap .i64 ((p.1 + p.2.2.1 + 256 - 1) / 256 * 256 + (IntKind.wrap .i64 (0 * 2 ^ (min (8 : Int).toNat 64))))], ())) := by
        simp only [impl_RetypePiece_l0, impl_RetypePiece_l0K, show decide ((0 : Int) < 1) = true from rfl, cond_true]
        rw [chk_pos (by decide), show (0 : Int) = ((0 : Nat) : Int) from rfl, nnK_nat, chk_pos (by decide)]
        rfl
      show loopF impl_RetypePiece_l0 (8, 1, (p.1 + p.2.2.1 + 256 - 1) / 256 * 256, 1, 0, p, (0, 0, 0, ()), [0], ()) = _
      rw [loopF_inl a1]
      exact loopF_inr (by simp only [impl_RetypePiece_l0, impl_RetypePiece_l0K, show decide ((1 : Int) < 1) = false from rfl, cond_false])
    obtain ⟨zs, l2⟩ := l2
    rw [l2]
    simp only [B7]
    rw [chk_pos (by decide), es, wrap64 (n := (p.1 + p.2.2.1 + 256 - 1) / 256 * 256 + 256) (by omega) (by omega), wrap64 (n := (p.1 + p.2.2.1 + 256 - 1) / 256 * 256 + 256 - p.1) (by omega) (by omega)]
    refine ⟨_, _, rfl, rfl, ?_, rfl⟩
    simp only [Prod.mk.injEq, true_and, and_true]
    omega

theorem retype_9 (p : DPiece) (hp : pieceV p = true) : ∃ x y, spec_RetypePiece p 9 1 = some x ∧ impl_RetypePiece p 9 1 = some y ∧ x.1 = y.1 ∧ x.2.1 = y.2.1 := by
  have hp0 := hp
  simp only [pieceV, rgt, Bool.and_eq_true, decide_eq_true_eq] at hp
  obtain ⟨⟨p1, p2⟩, ⟨p3, p4⟩, p5, p6, p7⟩ := hp
  obtain ⟨s1, s2, _⟩ := szP_range p1 p2
  have hd : 512 ≤ szP p.2.1 → szP p.2.1 % 512 = 0 := szP_dvd 512 (by decide) p1 p2
  have hb : 512 ≤ szP p.2.1 → p.1 % 512 = 0 := fun h => Int.emod_eq_zero_of_dvd (Int.dvd_trans (Int.dvd_of_emod_eq_zero (hd h)) (Int.dvd_of_tmod_eq_zero p5))
  have em : (p.1, p.2.1, p.2.2.1, ()) = p := rfl
  have eS : IntKind.wrap .i64 ((1 : Int) * 2 ^ (min (p.2.1).toNat 64)) = szP p.2.1 := rfl
  have es : IntKind.wrap .i64 ((1 : Int) * 2 ^ (min (9 : Int).toNat 64)) = 512 := by decide
  have e2 : (2 : Int) ^ (min (9 : Int).toNat 64) = 512 := by decide
  have ef : spec_l3First p 9 = some ((p.2.2.1 + 512 - 1) / 512 * 512) := by
    unfold spec_l3First spec_l3FirstK
    rw [es, chk_pos (by decide), chk_pos (by decide), wrap64 (n := p.2.2.1 + 512) (by omega) (by omega), wrap64 (n := p.2.2.1 + 512 - 1) (by omega) (by omega), Int.tdiv_eq_ediv_of_nonneg (by omega), wrap64 (n := (p.2.2.1 + 512 - 1) / 512) (by omega) (by omega), wrap64 (by omega) (by omega)]
  have er : spec_PieceRoom p 9 = some (if (szP p.2.1 - (p.2.2.1 + 512 - 1) / 512 * 512) / 512 > 0 then (szP p.2.1 - (p.2.2.1 + 512 - 1) / 512 * 512) / 512 else 0) := by
    unfold spec_PieceRoom spec_PieceRoomK
    rw [em, spec_PieceValid_ok, hp0, eS, ef, e2, l1In_ok]
    simp only [B7, Bool.not_true, Bool.not_false, cond_true, cond_false, show (decide ((0 : Int) ≤ 9) && decide ((9 : Int) ≤ 16)) = true from by decide]
    rw [chk_pos p1, chk_pos (by decide), wrap64 (n := szP p.2.1 - (p.2.2.1 + 512 - 1) / 512 * 512) (by omega) (by omega), Int.fdiv_eq_ediv_of_nonneg _ (by decide)]
  have ei : impl_Piece_room p 9 = some ((p.1 + p.2.2.1 + 512 - 1) / 512 * 512, (if p.1 + szP p.2.1 - (p.1 + p.2.2.1 + 512 - 1) / 512 * 512 > 0 then p.1 + szP p.2.1 - (p.1 + p.2.2.1 + 512 - 1) / 512 * 512 else 0) / 512) := by
    unfold impl_Piece_room impl_Piece_roomK
    simp only [eS, es]
    rw [chk_pos (by decide), chk_pos (by decide), chk_pos p1, chk_pos (by decide), wrap64 (n := p.1 + p.2.2.1) (by omega) (by omega), wrap64 (n := p.1 + p.2.2.1 + 512) (by omega) (by omega), wrap64 (n := p.1 + p.2.2.1 + 512 - 1) (by omega) (by omega), Int.tdiv_eq_ediv_of_nonneg (a := p.1 + p.2.2.1 + 512 - 1) (by omega),
      wrap64 (n := (p.1 + p.2.2.1 + 512 - 1) / 512) (by omega) (by omega), wrap64 (n := (p.1 + p.2.2.1 + 512 - 1) / 512 * 512) (by omega) (by omega), wrap64 (n := p.1 + szP p.2.1) (by omega) (by omega), wrap64 (n := p.1 + szP p.2.1 - (p.1 + p.2.2.1 + 512 - 1) / 512 * 512) (by omega) (by omega)]
    rw [Int.tdiv_eq_ediv_of_nonneg (by split <;> omega), wrap64 (by split <;> omega) (by split <;> omega)]
  generalize hR : (if (szP p.2.1 - (p.2.2.1 + 512 - 1) / 512 * 512) / 512 > 0 then (szP p.2.1 - (p.2.2.1 + 512 - 1) / 512 * 512) / 512 else 0) = R at er
  generalize hQ : (if p.1 + szP p.2.1 - (p.1 + p.2.2.1 + 512 - 1) / 512 * 512 > 0 then p.1 + szP p.2.1 - (p.1 + p.2.2.1 + 512 - 1) / 512 * 512 else 0) / 512 = Q at ei
  have hRQ : (R < 1 ↔ Q < 1) ∧ 0 ≤ R ∧ (¬ R < 1 → (p.1 + p.2.2.1 + 512 - 1) / 512 * 512 = p.1 + (p.2.2.1 + 512 - 1) / 512 * 512) := by
    subst hR hQ
    by_cases hsz : 512 ≤ szP p.2.1
    · have h1 := hd hsz
      have h2 := hb hsz
      refine ⟨?_, by split <;> omega, fun _ => by omega⟩
      constructor
      · intro q; split at q <;> split <;> omega
      · intro q; split at q <;> split <;> omega
    · refine ⟨?_, by split <;> omega, fun q => ?_⟩
      · constructor
        · intro q; split <;> omega
        · intro q; split <;> omega
      · exfalso; split at q <;> omega
  obtain ⟨h1, h2, h3⟩ := hRQ
  unfold spec_RetypePiece spec_RetypePieceK impl_RetypePiece impl_RetypePieceK
  simp only [em, er, ei, ef, impl_PieceValid_ok, hp0, B7, l1In_ok, in_ok, show decide (R < 0) = false from decide_eq_false (by omega), show (decide ((1 : Int) ≤ 1) && decide ((1 : Int) ≤ 40)) = true from by decide, show (decide ((0 : Int) ≤ 9) && decide ((9 : Int) ≤ 16)) = true from by decide, Bool.not_true, Bool.not_false, cond_true, cond_false]
  by_cases hc : R < 1
  · have hc2 := h1.1 hc
    simp only [hc, hc2, decide_true, cond_true]
    exact ⟨_, _, rfl, rfl, rfl, rfl⟩
  · have hc2 : ¬ Q < 1 := fun q => hc (h1.2 q)
    have h4 := h3 hc
    simp only [hc, hc2, decide_false, cond_false]
    have l1 : loopF spec_RetypePiece_l0 (9, 1, (p.2.2.1 + 512 - 1) / 512 * 512, 0, p, (0, 0, 0, ()), [], ()) = some ((p.2.2.1 + 512 - 1) / 512 * 512 + 512, p, (0, 0, 0, ()), [IntKind.wrap .i64 (p.1 + (p.2.2.1 + 512 - 1) / 512 * 512)], ()) := by
      have a1 : spec_RetypePiece_l0 (9, 1, (p.2.2.1 + 512 - 1) / 512 * 512, 0, p, (0, 0, 0, ()), [], ()) = some (.inl (9, 1, (p.2.2.1 + 512 - 1) / 512 * 512 + 512, 1, p, (0, 0, 0, ()), [IntKind.wrap .i64 (p.1 + (p.2.2.1 + 512 - 1) / 512 * 512)], ())) := by
        simp only [spec_RetypePiece_l0, spec_RetypePiece_l0K, es, show decide ((0 : Int) < 1) = true from rfl, cond_true]
        rw [chk_pos (by simp [bigRow]), chk_pos (by decide), wrap64 (n := (p.2.2.1 + 512 - 1) / 512 * 512 + 512) (by omega) (by omega)]
        rfl
      rw [loopF_inl a1]
      exact loopF_inr (by simp only [spec_RetypePiece_l0, spec_RetypePiece_l0K, show decide ((1 : Int) < 1) = false from rfl, cond_false])
    rw [l1, nnK_pos (show (0 : Int) ≤ 1 by decide), chk_pos (by decide)]
    have l2 : ∃ zs, loopF impl_RetypePiece_l0 (9, 1, (p.1 + p.2.2.1 + 512 - 1) / 512 * 512, ((List.replicate (1 : Int).toNat (0 : Int)).length : Int), 0, p, (0, 0, 0, ()), List.replicate (1 : Int).toNat (0 : Int), ()) = some (9, 1, (p.1 + p.2.2.1 + 512 - 1) / 512 * 512, p, (0, 0, 0, ()), zs, ()) := by
      refine ⟨[IntKind.wrap .i64 ((p.1 + p.2.2.1 + 512 - 1) / 512 * 512 + (IntKind.wrap .i64 (0 * 2 ^ (min (9 : Int).toNat 64))))], ?_⟩
      have a1 : impl_RetypePiece_l0 (9, 1, (p.1 + p.2.2.1 + 512 - 1) / 512 * 512, 1, 0, p, (0, 0, 0, ()), [0], ()) = some (.inl (9, 1, (p.1 + p.2.2.1 + 512 - 1) / 512 * 512, 1, 1, p, (0, 0, 0, ()), [IntKind.wrap .i64 ((p.1 + p.2.2.1 + 512 - 1) / 512 * 512 + (IntKind.wrap .i64 (0 * 2 ^ (min (9 : Int).toNat 64))))], ())) := by
        simp only [impl_RetypePiece_l0, impl_RetypePiece_l0K, show decide ((0 : Int) < 1) = true from rfl, cond_true]
        rw [chk_pos (by decide), show (0 : Int) = ((0 : Nat) : Int) from rfl, nnK_nat, chk_pos (by decide)]
        rfl
      show loopF impl_RetypePiece_l0 (9, 1, (p.1 + p.2.2.1 + 512 - 1) / 512 * 512, 1, 0, p, (0, 0, 0, ()), [0], ()) = _
      rw [loopF_inl a1]
      exact loopF_inr (by simp only [impl_RetypePiece_l0, impl_RetypePiece_l0K, show decide ((1 : Int) < 1) = false from rfl, cond_false])
    obtain ⟨zs, l2⟩ := l2
    rw [l2]
    simp only [B7]
    rw [chk_pos (by decide), es, wrap64 (n := (p.1 + p.2.2.1 + 512 - 1) / 512 * 512 + 512) (by omega) (by omega), wrap64 (n := (p.1 + p.2.2.1 + 512 - 1) / 512 * 512 + 512 - p.1) (by omega) (by omega)]
    refine ⟨_, _, rfl, rfl, ?_, rfl⟩
    simp only [Prod.mk.injEq, true_and, and_true]
    omega

theorem bits_ok (n : Int) : ∃ r, spec_ObjectBits n = some r ∧ impl_ObjectBits n = some r ∧ (r = -1 ∨ r = 4 ∨ r = 6 ∨ r = 8 ∨ r = 9) := by
  unfold spec_ObjectBits spec_ObjectBitsK impl_ObjectBits impl_ObjectBitsK
  generalize (n == (2 : Int)) = b2
  generalize (n == (3 : Int)) = b3
  generalize (n == (4 : Int)) = b4
  generalize (n == (5 : Int)) = b5
  generalize (n == (6 : Int)) = b6
  generalize (n == (7 : Int)) = b7
  cases b2 <;> cases b3 <;> cases b4 <;> cases b5 <;> cases b6 <;> cases b7 <;> exact ⟨_, rfl, rfl, by decide⟩

theorem SysRetype_same (k : DKernel) (n s : Int) (h1 : k.2.1.length ≤ 1048577) (h2 : k.2.2.1.length ≤ 1048577) : ∃ x, spec_SysRetype k n s = some x ∧ impl_SysRetype k n s = some x ∧ kFit k x := by
  unfold spec_SysRetype spec_SysRetypeK impl_SysRetype impl_SysRetypeK
  have ek : ((k.1.1, k.1.2.1, k.1.2.2.1, ()), k.2.1, k.2.2.1, k.2.2.2.1, ()) = k := rfl
  have ep : (k.1.1, k.1.2.1, k.1.2.2.1, ()) = k.1 := rfl
  rw [ek, spec_KernelValid_ok k h1 h2, impl_KernelValid_ok k h1 h2]
  cases hv : kernV k with
  | false => exact ⟨_, rfl, rfl, kFit_bad k⟩
  | true =>
    obtain ⟨hpv, hdv, hpl, _⟩ := kernV_parts hv
    have hlen := derV_len hdv
    obtain ⟨r, hr1, hr2, hr3⟩ := bits_ok n
    simp only [B7, Bool.not_true, cond_false, l25Copy_ok k h1 h2, copyOf_ok k h1 h2, slot_ok k _ h2, empty_ok k _ h2, not_neg, hr1, hr2, ep]
    cases hf : slotIn k.2.2.1 s with
    | false => exact ⟨_, rfl, rfl, kFit_st k 1⟩
    | true =>
      obtain ⟨f0, f1⟩ := slotIn_iff.1 hf
      cases decide (k.2.2.1.getD s.toNat 0 ≥ 0) with
      | true => exact ⟨_, rfl, rfl, kFit_st k 1⟩
      | false =>
        simp only [Bool.true_and, Bool.not_true, Bool.not_false, cond_true, cond_false, Bool.and_self]
        have fin : ∀ b : Int, (∃ x y, spec_RetypePiece k.1 b 1 = some x ∧ impl_RetypePiece k.1 b 1 = some y ∧ x.1 = y.1 ∧ x.2.1 = y.2.1) → decide (b ≥ 0) = true →
            ∃ x : KRes, (bif !decide (b ≥ 0) then some (k.1.1, k.1.2.1, k.1.2.2.1, k.2.2.2.1, 3, k.2.1, k.2.2.1) else
              bif !((k.2.1.length : Int) == 30) then bif decide (k.2.2.2.1 > 99) then some (k.1.1, k.1.2.1, k.1.2.2.1, k.2.2.2.1, 2, k.2.1, k.2.2.1) else
                (spec_RetypePiece k.1 b 1).bind fun r8 => bif !r8.2.1 then some (k.1.1, k.1.2.1, k.1.2.2.1, k.2.2.2.1, 4, k.2.1, k.2.2.1) else
                  nnK s fun i9 => chk (i9 < k.2.2.1.length) <| getK k.2.2.1 i9 fun y10 => chk (k.2.1.length + 1 ≤ bigRow) <|
                    some (r8.1.1, r8.1.2.1, r8.1.2.2.1, IntKind.wrap .i64 (k.2.2.2.1 + 1), 0, k.2.1 ++ [((n, k.2.2.2.1, 15, 0, ()), -1, false, ())], k.2.2.1.set i9 (k.2.1.length : Int))
              else some (k.1.1, k.1.2.1, k.1.2.2.1, k.2.2.2.1, 2, k.2.1, k.2.2.1)) = some x ∧
            (bif !decide (b ≥ 0) then some (k.1.1, k.1.2.1, k.1.2.2.1, k.2.2.2.1, 3, k.2.1, k.2.2.1) else
              bif !((k.2.1.length : Int) == 30) then bif decide (k.2.2.2.1 > 99) then some (k.1.1, k.1.2.1, k.1.2.2.1, k.2.2.2.1, 2, k.2.1, k.2.2.1) else
                (impl_RetypePiece k.1 b 1).bind fun r8 => bif !r8.2.1 then some (k.1.1, k.1.2.1, k.1.2.2.1, k.2.2.2.1, 4, k.2.1, k.2.2.1) else
                  chk (k.2.1.length + 1 ≤ bigRow) <| (impl_clone_Entry (k.2.1 ++ [((n, k.2.2.2.1, 15, 0, ()), -1, false, ())])).bind fun r9 => nnK s fun i10 => chk (i10 < k.2.2.1.length) <| getK k.2.2.1 i10 fun y11 =>
                    some (r8.1.1, r8.1.2.1, r8.1.2.2.1, IntKind.wrap .i64 (k.2.2.2.1 + 1), 0, r9, k.2.2.1.set i10 (k.2.1.length : Int))
              else some (k.1.1, k.1.2.1, k.1.2.2.1, k.2.2.2.1, 2, k.2.1, k.2.2.1)) = some x ∧ kFit k x := by
          rintro b ⟨x, y, hx, hy, q1, q2⟩ hb
          rw [hb, hx, hy]
          simp only [Bool.not_true, cond_false, B7]
          cases ((k.2.1.length : Int) == 30) with
          | true => exact ⟨_, rfl, rfl, kFit_st k 2⟩
          | false =>
            cases decide (k.2.2.2.1 > 99) with
            | true => exact ⟨_, rfl, rfl, kFit_st k 2⟩
            | false =>
              simp only [Bool.not_false, cond_true, cond_false, q1, q2]
              cases y.2.1 with
              | false => exact ⟨_, rfl, rfl, kFit_st k 4⟩
              | true =>
                simp only [Bool.not_true, cond_false]
                have hbig : k.2.1.length + 1 ≤ bigRow := by simp only [bigRow]; omega
                rw [clone_Entry_ok _ (by simp; omega), nnK_pos f0, chk_pos f1, getK_lt f1, chk_pos hbig, chk_pos hbig]
                simp only [B7, nnK_pos f0]
                rw [chk_pos f1, getK_lt f1]
                exact ⟨_, rfl, rfl, by simp, by simp⟩
        rcases hr3 with rfl | rfl | rfl | rfl | rfl
        · exact ⟨_, rfl, rfl, kFit_st k 3⟩
        · exact fin 4 (retype_4 k.1 hpv) rfl
        · exact fin 6 (retype_6 k.1 hpv) rfl
        · exact fin 8 (retype_8 k.1 hpv) rfl
        · exact fin 9 (retype_9 k.1 hpv) rfl

theorem FnExactSysRetype_law (k : DKernel) (n s : Int) (h : WfD (.cons tKernel (.cons I (.cons I .nil))) (k, n, s, ())) : laws_FnExactSysRetype k n s = some true := by
  have hl : k.2.1.length ≤ 9223372036854775807 := by have := h.1.2.1.1; simp only [maxLen] at this; omega
  have hm : k.2.2.1.length ≤ 9223372036854775807 := by have := h.1.2.2.1.1; simp only [maxLen] at this; omega
  have ek : ((k.1.1, k.1.2.1, k.1.2.2.1, ()), k.2.1, k.2.2.1, k.2.2.2.1, ()) = k := rfl
  unfold laws_FnExactSysRetype laws_FnExactSysRetypeK
  simp only [ek]
  rw [szKernel_ok k hl hm]
  by_cases hs : k.2.1.length + k.2.2.1.length ≤ 1048576
  · have h0 : ¬ (1048576 - (k.2.1.length : Int) - (k.2.2.1.length : Int) < 0) := by omega
    obtain ⟨x, hx1, hx2, hf⟩ := SysRetype_same k n s (by omega) (by omega)
    have g1 : x.2.2.2.2.2.1.length ≤ 1048577 := by have := hf.1; omega
    have g2 : x.2.2.2.2.2.2.length ≤ 1048577 := by have := hf.2; omega
    have q1 : ¬ (1 + 6 * (k.2.1.length : Int) + 1 * (k.2.2.1.length : Int) < 0) := by omega
    have q2 : ¬ (1 + 6 * (x.2.2.2.2.2.1.length : Int) + 1 * (x.2.2.2.2.2.2.length : Int) < 0) := by omega
    simp only [hs, h0, if_true, B7, decide_false, cond_false, cond_true, toKernel_ok k (by omega) (by omega), ek, hx1, hx2, kRes_eq _ g1 g2, Bool.not_true, Bool.not_false, bne_self_eq_false, eqKernel_ok k (by omega) (by omega), kMark k (by omega) (by omega), q1, rMark _ g1 g2, rHeld _ g1 g2, q2]
  · simp [hs]

end Go.Ev
