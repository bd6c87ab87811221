/-
  What the functions of the program compute, as functions of plain data; printed by a program of the prover.
-/
import Derived.Test.YtcjbjcdmefggmaaEv3
namespace Go.Ev
set_option linter.unusedVariables false
set_option linter.unusedSimpArgs false
set_option maxRecDepth 100000
abbrev I : Ty := .int .i64
abbrev Dl20Rd : Type := (List Int) × Int × Unit
abbrev tl20Rd : Ty := .cons (.sl (.int .u8)) (.cons I (.nil))
/-! loop.example/capkernel/laws.toIntS -/
noncomputable def laws_toIntS_l0K {γ : Type} (a2 : (List Int)) (i3 : Int) (b4 : (List Int)) (kn : (List Int) × Int × (List Int) × Unit → Option γ) (kx : (List Int) × Unit → Option γ) : Option γ :=
  bif decide (i3 < (a2.length : Int)) then
    nnK i3 fun i5 =>
    getK a2 i5 fun v6 =>
    nnK i3 fun i7 =>
    chk (i7 < b4.length) <|
    getK b4 i7 fun y8 =>
    kn (a2, (IntKind.wrap .i64 (i3 + (1 : Int))), (b4.set i7 v6), ())
  else
  kx (b4, ())
noncomputable def laws_toIntS_l0 (x : (List Int) × Int × (List Int) × Unit) : Option (((List Int) × Int × (List Int) × Unit) ⊕ ((List Int) × Unit)) :=
  laws_toIntS_l0K x.1 x.2.1 x.2.2.1 (fun y => some (.inl y)) (fun a => some (.inr a))
theorem laws_toIntS_l0_eq {γ : Type} (a2 : (List Int)) (i3 : Int) (b4 : (List Int)) (kn : (List Int) × Int × (List Int) × Unit → Option γ) (kx : (List Int) × Unit → Option γ) : laws_toIntS_l0K a2 i3 b4 kn kx = (laws_toIntS_l0 (a2, i3, b4, ())).bind fun r => sum2K r kn kx := by
  simp only [laws_toIntS_l0K, laws_toIntS_l0, cond_bind', chk_bind', nnK_bind', getK_bind', getBK_bind', endK_bind', bind_bind', some_bind', none_bind', sum3K_1, sum3K_2, sum3K_3, sum2K_1, sum2K_2]
noncomputable def laws_toIntSK {γ : Type} (a1 : (List Int)) (k : (List Int) → Option γ) : Option γ :=
  chk (a1.length ≤ bigRow) <|
  (loopF laws_toIntS_l0 (a1, (0 : Int), (List.replicate a1.length (0 : Int)), ())).bind fun z9 =>
  k z9.1
noncomputable def laws_toIntS (a1 : (List Int)) : Option ((List Int)) :=
  laws_toIntSK a1 some
theorem laws_toIntS_eq {γ : Type} (a1 : (List Int)) (k : (List Int) → Option γ) : laws_toIntSK a1 k = (laws_toIntS a1).bind k := by
  simp only [laws_toIntSK, laws_toIntS, cond_bind', chk_bind', nnK_bind', getK_bind', getBK_bind', endK_bind', bind_bind', some_bind', none_bind', sum3K_1, sum3K_2, sum3K_3, sum2K_1, sum2K_2]

/-! loop.example/capkernel/spec.ImageSum -/
noncomputable def spec_ImageSum_l0K {γ : Type} (list2 : (List Int)) (n3 : Int) (kq4 : Int) (kn : (List Int) × Int × Int × Unit → Option γ) (kx : Int × Unit → Option γ) : Option γ :=
  bif decide (kq4 < (list2.length : Int)) then
    nnK kq4 fun i5 =>
    getK list2 i5 fun v6 =>
    bif decide ((Int.tmod v6 (65521 : Int)) < (0 : Int)) then
      kn (list2, (Int.tmod (IntKind.wrap .i64 ((IntKind.wrap .i64 ((37 : Int) * n3)) + (IntKind.wrap .i64 ((Int.tmod v6 (65521 : Int)) + (65521 : Int))))) (65521 : Int)), (IntKind.wrap .i64 (kq4 + (1 : Int))), ())
    else
    kn (list2, (Int.tmod (IntKind.wrap .i64 ((IntKind.wrap .i64 ((37 : Int) * n3)) + (Int.tmod v6 (65521 : Int)))) (65521 : Int)), (IntKind.wrap .i64 (kq4 + (1 : Int))), ())
  else
  kx (n3, ())
noncomputable def spec_ImageSum_l0 (x : (List Int) × Int × Int × Unit) : Option (((List Int) × Int × Int × Unit) ⊕ (Int × Unit)) :=
  spec_ImageSum_l0K x.1 x.2.1 x.2.2.1 (fun y => some (.inl y)) (fun a => some (.inr a))
theorem spec_ImageSum_l0_eq {γ : Type} (list2 : (List Int)) (n3 : Int) (kq4 : Int) (kn : (List Int) × Int × Int × Unit → Option γ) (kx : Int × Unit → Option γ) : spec_ImageSum_l0K list2 n3 kq4 kn kx = (spec_ImageSum_l0 (list2, n3, kq4, ())).bind fun r => sum2K r kn kx := by
  simp only [spec_ImageSum_l0K, spec_ImageSum_l0, cond_bind', chk_bind', nnK_bind', getK_bind', getBK_bind', endK_bind', bind_bind', some_bind', none_bind', sum3K_1, sum3K_2, sum3K_3, sum2K_1, sum2K_2]
noncomputable def spec_ImageSumK {γ : Type} (list1 : (List Int)) (k : Int → Option γ) : Option γ :=
  (loopF spec_ImageSum_l0 (list1, (1 : Int), (0 : Int), ())).bind fun z7 =>
  k z7.1
noncomputable def spec_ImageSum (list1 : (List Int)) : Option (Int) :=
  spec_ImageSumK list1 some
theorem spec_ImageSum_eq {γ : Type} (list1 : (List Int)) (k : Int → Option γ) : spec_ImageSumK list1 k = (spec_ImageSum list1).bind k := by
  simp only [spec_ImageSumK, spec_ImageSum, cond_bind', chk_bind', nnK_bind', getK_bind', getBK_bind', endK_bind', bind_bind', some_bind', none_bind', sum3K_1, sum3K_2, sum3K_3, sum2K_1, sum2K_2]

/-! loop.example/capkernel/impl.ImageSum -/
noncomputable def impl_ImageSum_l0K {γ : Type} (sum2 : Int) (a3 : (List Int)) (a4 : Int) (a5 : Int) (kn : Int × (List Int) × Int × Int × Unit → Option γ) (kx : Int × Unit → Option γ) : Option γ :=
  bif decide (a5 < a4) then
    nnK a5 fun i6 =>
    getK a3 i6 fun v7 =>
    kn ((Int.tmod (IntKind.wrap .i64 ((IntKind.wrap .i64 ((37 : Int) * sum2)) + (Int.tmod (IntKind.wrap .i64 ((Int.tmod v7 (65521 : Int)) + (65521 : Int))) (65521 : Int)))) (65521 : Int)), a3, a4, (IntKind.wrap .i64 (a5 + (1 : Int))), ())
  else
  kx (sum2, ())
noncomputable def impl_ImageSum_l0 (x : Int × (List Int) × Int × Int × Unit) : Option ((Int × (List Int) × Int × Int × Unit) ⊕ (Int × Unit)) :=
  impl_ImageSum_l0K x.1 x.2.1 x.2.2.1 x.2.2.2.1 (fun y => some (.inl y)) (fun a => some (.inr a))
theorem impl_ImageSum_l0_eq {γ : Type} (sum2 : Int) (a3 : (List Int)) (a4 : Int) (a5 : Int) (kn : Int × (List Int) × Int × Int × Unit → Option γ) (kx : Int × Unit → Option γ) : impl_ImageSum_l0K sum2 a3 a4 a5 kn kx = (impl_ImageSum_l0 (sum2, a3, a4, a5, ())).bind fun r => sum2K r kn kx := by
  simp only [impl_ImageSum_l0K, impl_ImageSum_l0, cond_bind', chk_bind', nnK_bind', getK_bind', getBK_bind', endK_bind', bind_bind', some_bind', none_bind', sum3K_1, sum3K_2, sum3K_3, sum2K_1, sum2K_2]
noncomputable def impl_ImageSumK {γ : Type} (list1 : (List Int)) (k : Int → Option γ) : Option γ :=
  (loopF impl_ImageSum_l0 ((1 : Int), list1, (list1.length : Int), (0 : Int), ())).bind fun z8 =>
  k z8.1
noncomputable def impl_ImageSum (list1 : (List Int)) : Option (Int) :=
  impl_ImageSumK list1 some
theorem impl_ImageSum_eq {γ : Type} (list1 : (List Int)) (k : Int → Option γ) : impl_ImageSumK list1 k = (impl_ImageSum list1).bind k := by
  simp only [impl_ImageSumK, impl_ImageSum, cond_bind', chk_bind', nnK_bind', getK_bind', getBK_bind', endK_bind', bind_bind', some_bind', none_bind', sum3K_1, sum3K_2, sum3K_3, sum2K_1, sum2K_2]

/-! loop.example/capkernel/laws.eqIntS -/
noncomputable def laws_eqIntS_l0K {γ : Type} (a3 : (List Int)) (b4 : (List Int)) (i5 : Int) (kn : (List Int) × (List Int) × Int × Unit → Option γ) (kx : Unit → Option γ) (kr : Bool × Unit → Option γ) : Option γ :=
  bif decide (i5 < (a3.length : Int)) then
    nnK i5 fun i6 =>
    getK a3 i6 fun v7 =>
    nnK i5 fun i8 =>
    getK b4 i8 fun v9 =>
    bif (v7 != v9) then
      kr (false, ())
    else
    kn (a3, b4, (IntKind.wrap .i64 (i5 + (1 : Int))), ())
  else
  kx ()
noncomputable def laws_eqIntS_l0 (x : (List Int) × (List Int) × Int × Unit) : Option (((List Int) × (List Int) × Int × Unit) ⊕ ((Unit) ⊕ (Bool × Unit))) :=
  laws_eqIntS_l0K x.1 x.2.1 x.2.2.1 (fun y => some (.inl y)) (fun a => some (.inr (.inl a))) (fun b => some (.inr (.inr b)))
theorem laws_eqIntS_l0_eq {γ : Type} (a3 : (List Int)) (b4 : (List Int)) (i5 : Int) (kn : (List Int) × (List Int) × Int × Unit → Option γ) (kx : Unit → Option γ) (kr : Bool × Unit → Option γ) : laws_eqIntS_l0K a3 b4 i5 kn kx kr = (laws_eqIntS_l0 (a3, b4, i5, ())).bind fun r => sum3K r kn kx kr := by
  simp only [laws_eqIntS_l0K, laws_eqIntS_l0, cond_bind', chk_bind', nnK_bind', getK_bind', getBK_bind', endK_bind', bind_bind', some_bind', none_bind', sum3K_1, sum3K_2, sum3K_3, sum2K_1, sum2K_2]
noncomputable def laws_eqIntSK {γ : Type} (a1 : (List Int)) (b2 : (List Int)) (k : Bool → Option γ) : Option γ :=
  bif ((a1.length : Int) != (b2.length : Int)) then
    k false
  else
  (loopF laws_eqIntS_l0 (a1, b2, (0 : Int), ())).bind fun q => endK q (fun z10 =>
    k true) (fun z11 =>
    k z11.1)
noncomputable def laws_eqIntS (a1 : (List Int)) (b2 : (List Int)) : Option (Bool) :=
  laws_eqIntSK a1 b2 some
theorem laws_eqIntS_eq {γ : Type} (a1 : (List Int)) (b2 : (List Int)) (k : Bool → Option γ) : laws_eqIntSK a1 b2 k = (laws_eqIntS a1 b2).bind k := by
  simp only [laws_eqIntSK, laws_eqIntS, cond_bind', chk_bind', nnK_bind', getK_bind', getBK_bind', endK_bind', bind_bind', some_bind', none_bind', sum3K_1, sum3K_2, sum3K_3, sum2K_1, sum2K_2]

/-! loop.example/capkernel/laws.FnExactImageSum -/
noncomputable def laws_FnExactImageSumK {γ : Type} (aList1 : (List Int)) (k : Bool → Option γ) : Option γ :=
  bif decide ((aList1.length : Int) > (1048576 : Int)) then
    k true
  else
  (laws_toIntS aList1).bind fun r2 =>
  (spec_ImageSum r2).bind fun r3 =>
  (laws_toIntS aList1).bind fun r4 =>
  (impl_ImageSum r4).bind fun r5 =>
  bif (r5 != r3) then
    k false
  else
  (laws_toIntS aList1).bind fun r6 =>
  (laws_eqIntS r4 r6).bind fun r7 =>
  bif (!r7) then
    k false
  else
  k true
noncomputable def laws_FnExactImageSum (aList1 : (List Int)) : Option (Bool) :=
  laws_FnExactImageSumK aList1 some
theorem laws_FnExactImageSum_eq {γ : Type} (aList1 : (List Int)) (k : Bool → Option γ) : laws_FnExactImageSumK aList1 k = (laws_FnExactImageSum aList1).bind k := by
  simp only [laws_FnExactImageSumK, laws_FnExactImageSum, cond_bind', chk_bind', nnK_bind', getK_bind', getBK_bind', endK_bind', bind_bind', some_bind', none_bind', sum3K_1, sum3K_2, sum3K_3, sum2K_1, sum2K_2]

/-! loop.example/capkernel/spec.l20Open -/
noncomputable def spec_l20OpenK {γ : Type} (code1 : (List Int)) (k : Dl20Rd → Option γ) : Option γ :=
  bif decide ((code1.length : Int) > (2000 : Int)) then
    chk (2000 ≤ code1.length) <|
    k ((code1.take 2000), (0 : Int), ())
  else
  k (code1, (0 : Int), ())
noncomputable def spec_l20Open (code1 : (List Int)) : Option (Dl20Rd) :=
  spec_l20OpenK code1 some
theorem spec_l20Open_eq {γ : Type} (code1 : (List Int)) (k : Dl20Rd → Option γ) : spec_l20OpenK code1 k = (spec_l20Open code1).bind k := by
  simp only [spec_l20OpenK, spec_l20Open, cond_bind', chk_bind', nnK_bind', getK_bind', getBK_bind', endK_bind', bind_bind', some_bind', none_bind', sum3K_1, sum3K_2, sum3K_3, sum2K_1, sum2K_2]

/-! (*loop.example/capkernel/spec.l20Rd).pick -/
noncomputable def spec_l20Rd_pickK {γ : Type} (n1 : Int) (b2 : Dl20Rd) (k : Int × Dl20Rd → Option γ) : Option γ :=
  bif (!decide (n1 < (1 : Int))) then
    bif ((b2.1.length : Int) == (0 : Int)) then
      k ((0 : Int), (b2.1, (IntKind.wrap .i64 (b2.2.1 + (1 : Int))), ()))
    else
    bif decide ((IntKind.wrap .i64 ((IntKind.wrap .i64 (b2.2.1 + (1 : Int))) - (1 : Int))) < (b2.1.length : Int)) then
      nnK (IntKind.wrap .i64 ((IntKind.wrap .i64 (b2.2.1 + (1 : Int))) - (1 : Int))) fun i3 =>
      getK b2.1 i3 fun v4 =>
      chk (n1 ≠ 0) <|
      k ((Int.tmod (IntKind.wrap .i64 (v4)) n1), (b2.1, (IntKind.wrap .i64 (b2.2.1 + (1 : Int))), ()))
    else
    chk ((b2.1.length : Int) ≠ 0) <|
    nnK (Int.tmod (IntKind.wrap .i64 ((IntKind.wrap .i64 (b2.2.1 + (1 : Int))) - (1 : Int))) (b2.1.length : Int)) fun i5 =>
    getK b2.1 i5 fun v6 =>
    chk ((b2.1.length : Int) ≠ 0) <|
    nnK (Int.tmod (IntKind.wrap .i64 ((IntKind.wrap .i64 ((IntKind.wrap .i64 ((IntKind.wrap .i64 (b2.2.1 + (1 : Int))) - (1 : Int))) * (7 : Int))) + (3 : Int))) (b2.1.length : Int)) fun i7 =>
    getK b2.1 i7 fun v8 =>
    chk ((b2.1.length : Int) ≠ 0) <|
    chk (n1 ≠ 0) <|
    k ((Int.tmod (IntKind.wrap .i64 (((BitVec.ofInt 64 (IntKind.wrap .i64 ((IntKind.wrap .i64 ((IntKind.wrap .i64 ((IntKind.wrap .i64 ((IntKind.wrap .i64 (v6)) * (131 : Int))) + (IntKind.wrap .i64 ((IntKind.wrap .i64 (v8)) * (1117 : Int))))) + (IntKind.wrap .i64 ((IntKind.wrap .i64 ((IntKind.wrap .i64 (b2.2.1 + (1 : Int))) - (1 : Int))) * (29 : Int))))) + (IntKind.wrap .i64 ((IntKind.wrap .i64 (Int.tdiv (IntKind.wrap .i64 ((IntKind.wrap .i64 (b2.2.1 + (1 : Int))) - (1 : Int))) (b2.1.length : Int))) * (53 : Int))))) ^^^ BitVec.ofInt 64 (IntKind.wrap .i64 (Int.tdiv (IntKind.wrap .i64 ((IntKind.wrap .i64 ((IntKind.wrap .i64 ((IntKind.wrap .i64 ((IntKind.wrap .i64 (v6)) * (131 : Int))) + (IntKind.wrap .i64 ((IntKind.wrap .i64 (v8)) * (1117 : Int))))) + (IntKind.wrap .i64 ((IntKind.wrap .i64 ((IntKind.wrap .i64 (b2.2.1 + (1 : Int))) - (1 : Int))) * (29 : Int))))) + (IntKind.wrap .i64 ((IntKind.wrap .i64 (Int.tdiv (IntKind.wrap .i64 ((IntKind.wrap .i64 (b2.2.1 + (1 : Int))) - (1 : Int))) (b2.1.length : Int))) * (53 : Int))))) (64 : Int)))).toNat : Int))) n1), (b2.1, (IntKind.wrap .i64 (b2.2.1 + (1 : Int))), ()))
  else
  k ((0 : Int), (b2.1, (IntKind.wrap .i64 (b2.2.1 + (1 : Int))), ()))
noncomputable def spec_l20Rd_pick (n1 : Int) (b2 : Dl20Rd) : Option (Int × Dl20Rd) :=
  spec_l20Rd_pickK n1 b2 some
theorem spec_l20Rd_pick_eq {γ : Type} (n1 : Int) (b2 : Dl20Rd) (k : Int × Dl20Rd → Option γ) : spec_l20Rd_pickK n1 b2 k = (spec_l20Rd_pick n1 b2).bind k := by
  simp only [spec_l20Rd_pickK, spec_l20Rd_pick, cond_bind', chk_bind', nnK_bind', getK_bind', getBK_bind', endK_bind', bind_bind', some_bind', none_bind', sum3K_1, sum3K_2, sum3K_3, sum2K_1, sum2K_2]

/-! loop.example/capkernel/spec.DrawImageSum -/
noncomputable def spec_DrawImageSum_l0K {γ : Type} (kq4 : Int) (b5 : Dl20Rd) (b6 : (List Int)) (kn : Int × Dl20Rd × (List Int) × Unit → Option γ) (kx : (List Int) × Unit → Option γ) : Option γ :=
  bif decide (kq4 > (0 : Int)) then
    (spec_l20Rd_pick (256 : Int) b5).bind fun r7 =>
    (spec_l20Rd_pick (256 : Int) r7.2).bind fun r8 =>
    (spec_l20Rd_pick (6 : Int) r8.2).bind fun r9 =>
    nnK r9.1 fun i10 =>
    getK [r7.1, (-1 : Int), (65521 : Int), (9223372036854775807 : Int), (-9223372036854775808 : Int), (IntKind.wrap .i64 (r8.1 * (999 : Int)))] i10 fun v11 =>
    chk ((b6.length + 1) ≤ bigRow) <|
    kn ((IntKind.wrap .i64 (kq4 - (1 : Int))), r9.2, (b6 ++ [v11]), ())
  else
  kx (b6, ())
noncomputable def spec_DrawImageSum_l0 (x : Int × Dl20Rd × (List Int) × Unit) : Option ((Int × Dl20Rd × (List Int) × Unit) ⊕ ((List Int) × Unit)) :=
  spec_DrawImageSum_l0K x.1 x.2.1 x.2.2.1 (fun y => some (.inl y)) (fun a => some (.inr a))
theorem spec_DrawImageSum_l0_eq {γ : Type} (kq4 : Int) (b5 : Dl20Rd) (b6 : (List Int)) (kn : Int × Dl20Rd × (List Int) × Unit → Option γ) (kx : (List Int) × Unit → Option γ) : spec_DrawImageSum_l0K kq4 b5 b6 kn kx = (spec_DrawImageSum_l0 (kq4, b5, b6, ())).bind fun r => sum2K r kn kx := by
  simp only [spec_DrawImageSum_l0K, spec_DrawImageSum_l0, cond_bind', chk_bind', nnK_bind', getK_bind', getBK_bind', endK_bind', bind_bind', some_bind', none_bind', sum3K_1, sum3K_2, sum3K_3, sum2K_1, sum2K_2]
noncomputable def spec_DrawImageSumK {γ : Type} (code1 : (List Int)) (k : (List Int) → Option γ) : Option γ :=
  (spec_l20Open code1).bind fun r2 =>
  (spec_l20Rd_pick (8 : Int) r2).bind fun r3 =>
  (loopF spec_DrawImageSum_l0 (r3.1, r3.2, [], ())).bind fun z12 =>
  k z12.1
noncomputable def spec_DrawImageSum (code1 : (List Int)) : Option ((List Int)) :=
  spec_DrawImageSumK code1 some
theorem spec_DrawImageSum_eq {γ : Type} (code1 : (List Int)) (k : (List Int) → Option γ) : spec_DrawImageSumK code1 k = (spec_DrawImageSum code1).bind k := by
  simp only [spec_DrawImageSumK, spec_DrawImageSum, cond_bind', chk_bind', nnK_bind', getK_bind', getBK_bind', endK_bind', bind_bind', some_bind', none_bind', sum3K_1, sum3K_2, sum3K_3, sum2K_1, sum2K_2]

/-! loop.example/capkernel/laws.alive -/
noncomputable def laws_aliveK {γ : Type}  (k : Bool → Option γ) : Option γ :=
  k true
noncomputable def laws_alive  : Option (Bool) :=
  laws_aliveK  some
theorem laws_alive_eq {γ : Type}  (k : Bool → Option γ) : laws_aliveK  k = (laws_alive ).bind k := by
  simp only [laws_aliveK, laws_alive, cond_bind', chk_bind', nnK_bind', getK_bind', getBK_bind', endK_bind', bind_bind', some_bind', none_bind', sum3K_1, sum3K_2, sum3K_3, sum2K_1, sum2K_2]

/-! loop.example/capkernel/laws.FnImageSum -/
noncomputable def laws_FnImageSum_l0K {γ : Type} (list5 : (List Int)) (n6 : Int) (kq7 : Int) (kn : (List Int) × Int × Int × Unit → Option γ) (kx : (List Int) × Int × Unit → Option γ) (kr : Bool × Unit → Option γ) : Option γ :=
  bif decide (kq7 < (list5.length : Int)) then
    chk (list5.length ≤ bigRow) <|
    nnK kq7 fun i8 =>
    chk (i8 < list5.length) <|
    getK list5 i8 fun v9 =>
    nnK kq7 fun i10 =>
    chk (i10 < list5.length) <|
    getK list5 i10 fun y11 =>
    (impl_ImageSum (list5.set i10 (IntKind.wrap .i64 (((BitVec.ofInt 64 v9 ^^^ BitVec.ofInt 64 (1 : Int)).toNat : Int))))).bind fun r12 =>
    bif (r12 == n6) then
      kr (false, ())
    else
    kn (list5, n6, (IntKind.wrap .i64 (kq7 + (1 : Int))), ())
  else
  kx (list5, n6, ())
noncomputable def laws_FnImageSum_l0 (x : (List Int) × Int × Int × Unit) : Option (((List Int) × Int × Int × Unit) ⊕ (((List Int) × Int × Unit) ⊕ (Bool × Unit))) :=
  laws_FnImageSum_l0K x.1 x.2.1 x.2.2.1 (fun y => some (.inl y)) (fun a => some (.inr (.inl a))) (fun b => some (.inr (.inr b)))
theorem laws_FnImageSum_l0_eq {γ : Type} (list5 : (List Int)) (n6 : Int) (kq7 : Int) (kn : (List Int) × Int × Int × Unit → Option γ) (kx : (List Int) × Int × Unit → Option γ) (kr : Bool × Unit → Option γ) : laws_FnImageSum_l0K list5 n6 kq7 kn kx kr = (laws_FnImageSum_l0 (list5, n6, kq7, ())).bind fun r => sum3K r kn kx kr := by
  simp only [laws_FnImageSum_l0K, laws_FnImageSum_l0, cond_bind', chk_bind', nnK_bind', getK_bind', getBK_bind', endK_bind', bind_bind', some_bind', none_bind', sum3K_1, sum3K_2, sum3K_3, sum2K_1, sum2K_2]
noncomputable def laws_FnImageSumK {γ : Type} (code1 : (List Int)) (k : Bool → Option γ) : Option γ :=
  bif decide ((code1.length : Int) > (1048576 : Int)) then
    k true
  else
  (spec_DrawImageSum code1).bind fun r2 =>
  (impl_ImageSum r2).bind fun r3 =>
  (spec_ImageSum r2).bind fun r4 =>
  bif (r3 != r4) then
    k false
  else
  (loopF laws_FnImageSum_l0 (r2, r3, (0 : Int), ())).bind fun q => endK q (fun z13 =>
    bif decide (z13.2.1 ≥ (0 : Int)) then
      bif decide (z13.2.1 ≤ (65520 : Int)) then
        chk (z13.1.length ≤ bigRow) <|
        chk ((z13.1.length + 1) ≤ bigRow) <|
        (impl_ImageSum (z13.1 ++ [(9 : Int)])).bind fun r15 =>
        bif (r15 == (Int.tmod (IntKind.wrap .i64 ((IntKind.wrap .i64 ((37 : Int) * z13.2.1)) + (9 : Int))) (65521 : Int))) then
          (laws_alive).bind fun r16 =>
          k r16
        else
        k false
      else
      k false
    else
    k false) (fun z14 =>
    k z14.1)
noncomputable def laws_FnImageSum (code1 : (List Int)) : Option (Bool) :=
  laws_FnImageSumK code1 some
theorem laws_FnImageSum_eq {γ : Type} (code1 : (List Int)) (k : Bool → Option γ) : laws_FnImageSumK code1 k = (laws_FnImageSum code1).bind k := by
  simp only [laws_FnImageSumK, laws_FnImageSum, cond_bind', chk_bind', nnK_bind', getK_bind', getBK_bind', endK_bind', bind_bind', some_bind', none_bind', sum3K_1, sum3K_2, sum3K_3, sum2K_1, sum2K_2]

end Go.Ev
