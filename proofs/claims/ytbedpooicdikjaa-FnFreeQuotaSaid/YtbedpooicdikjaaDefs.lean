/-
  What the functions of the program compute, as functions of plain data; printed by a program of the prover.
-/
import Derived.Test.YtbedpooicdikjaaEv3
namespace Go.Ev
set_option linter.unusedVariables false
set_option linter.unusedSimpArgs false
set_option maxRecDepth 100000
abbrev I : Ty := .int .i64
abbrev DQuota : Type := Int × Int × Int × Unit
abbrev tQuota : Ty := .cons I (.cons I (.cons I (.nil)))
abbrev Dl20Rd : Type := (List Int) × Int × Unit
abbrev tl20Rd : Ty := .cons (.sl (.int .u8)) (.cons I (.nil))
/-! loop.example/capkernel/laws.szQuotaS -/
noncomputable def laws_szQuotaSK {γ : Type} (a1 : (List DQuota)) (left2 : Int) (k : Int → Option γ) : Option γ :=
  bif decide ((IntKind.wrap .i64 (left2 - (a1.length : Int))) < (0 : Int)) then
    k (-1 : Int)
  else
  k (IntKind.wrap .i64 (left2 - (a1.length : Int)))
noncomputable def laws_szQuotaS (a1 : (List DQuota)) (left2 : Int) : Option (Int) :=
  laws_szQuotaSK a1 left2 some
theorem laws_szQuotaS_eq {γ : Type} (a1 : (List DQuota)) (left2 : Int) (k : Int → Option γ) : laws_szQuotaSK a1 left2 k = (laws_szQuotaS a1 left2).bind k := by
  simp only [laws_szQuotaSK, laws_szQuotaS, cond_bind', chk_bind', nnK_bind', getK_bind', getBK_bind', endK_bind', bind_bind', some_bind', none_bind', sum3K_1, sum3K_2, sum3K_3, sum2K_1, sum2K_2]

/-! loop.example/capkernel/laws.toQuota -/
noncomputable def laws_toQuotaK {γ : Type} (a1 : DQuota) (k : DQuota → Option γ) : Option γ :=
  k (a1.1, a1.2.1, a1.2.2.1, ())
noncomputable def laws_toQuota (a1 : DQuota) : Option (DQuota) :=
  laws_toQuotaK a1 some
theorem laws_toQuota_eq {γ : Type} (a1 : DQuota) (k : DQuota → Option γ) : laws_toQuotaK a1 k = (laws_toQuota a1).bind k := by
  simp only [laws_toQuotaK, laws_toQuota, cond_bind', chk_bind', nnK_bind', getK_bind', getBK_bind', endK_bind', bind_bind', some_bind', none_bind', sum3K_1, sum3K_2, sum3K_3, sum2K_1, sum2K_2]

/-! loop.example/capkernel/laws.toQuotaS -/
noncomputable def laws_toQuotaS_l0K {γ : Type} (a2 : (List DQuota)) (i3 : Int) (b4 : (List DQuota)) (kn : (List DQuota) × Int × (List DQuota) × Unit → Option γ) (kx : (List DQuota) × Unit → Option γ) : Option γ :=
  bif decide (i3 < (a2.length : Int)) then
    nnK i3 fun i5 =>
    getK a2 i5 fun v6 =>
    (laws_toQuota v6).bind fun r7 =>
    nnK i3 fun i8 =>
    chk (i8 < b4.length) <|
    getK b4 i8 fun y9 =>
    kn (a2, (IntKind.wrap .i64 (i3 + (1 : Int))), (b4.set i8 (r7.1, r7.2.1, r7.2.2.1, ())), ())
  else
  kx (b4, ())
noncomputable def laws_toQuotaS_l0 (x : (List DQuota) × Int × (List DQuota) × Unit) : Option (((List DQuota) × Int × (List DQuota) × Unit) ⊕ ((List DQuota) × Unit)) :=
  laws_toQuotaS_l0K x.1 x.2.1 x.2.2.1 (fun y => some (.inl y)) (fun a => some (.inr a))
theorem laws_toQuotaS_l0_eq {γ : Type} (a2 : (List DQuota)) (i3 : Int) (b4 : (List DQuota)) (kn : (List DQuota) × Int × (List DQuota) × Unit → Option γ) (kx : (List DQuota) × Unit → Option γ) : laws_toQuotaS_l0K a2 i3 b4 kn kx = (laws_toQuotaS_l0 (a2, i3, b4, ())).bind fun r => sum2K r kn kx := by
  simp only [laws_toQuotaS_l0K, laws_toQuotaS_l0, cond_bind', chk_bind', nnK_bind', getK_bind', getBK_bind', endK_bind', bind_bind', some_bind', none_bind', sum3K_1, sum3K_2, sum3K_3, sum2K_1, sum2K_2]
noncomputable def laws_toQuotaSK {γ : Type} (a1 : (List DQuota)) (k : (List DQuota) → Option γ) : Option γ :=
  chk (a1.length ≤ bigRow) <|
  (loopF laws_toQuotaS_l0 (a1, (0 : Int), (List.replicate a1.length ((0 : Int), (0 : Int), (0 : Int), ())), ())).bind fun z10 =>
  k z10.1
noncomputable def laws_toQuotaS (a1 : (List DQuota)) : Option ((List DQuota)) :=
  laws_toQuotaSK a1 some
theorem laws_toQuotaS_eq {γ : Type} (a1 : (List DQuota)) (k : (List DQuota) → Option γ) : laws_toQuotaSK a1 k = (laws_toQuotaS a1).bind k := by
  simp only [laws_toQuotaSK, laws_toQuotaS, cond_bind', chk_bind', nnK_bind', getK_bind', getBK_bind', endK_bind', bind_bind', some_bind', none_bind', sum3K_1, sum3K_2, sum3K_3, sum2K_1, sum2K_2]

/-! loop.example/capkernel/spec.l1In -/
noncomputable def spec_l1InK {γ : Type} (n1 : Int) (lo2 : Int) (hi3 : Int) (k : Bool → Option γ) : Option γ :=
  bif decide (n1 ≥ lo2) then
    k (decide (n1 ≤ hi3))
  else
  k false
noncomputable def spec_l1In (n1 : Int) (lo2 : Int) (hi3 : Int) : Option (Bool) :=
  spec_l1InK n1 lo2 hi3 some
theorem spec_l1In_eq {γ : Type} (n1 : Int) (lo2 : Int) (hi3 : Int) (k : Bool → Option γ) : spec_l1InK n1 lo2 hi3 k = (spec_l1In n1 lo2 hi3).bind k := by
  simp only [spec_l1InK, spec_l1In, cond_bind', chk_bind', nnK_bind', getK_bind', getBK_bind', endK_bind', bind_bind', some_bind', none_bind', sum3K_1, sum3K_2, sum3K_3, sum2K_1, sum2K_2]

/-! loop.example/capkernel/spec.QuotasValid -/
noncomputable def spec_QuotasValid_l2K {γ : Type} (list16 : (List DQuota)) (kq17 : Int) (b18 : (List Int)) (kn : (List DQuota) × Int × (List Int) × Unit → Option γ) (kx : (List DQuota) × Unit → Option γ) (kr : Bool × Unit → Option γ) : Option γ :=
  bif decide (kq17 < (list16.length : Int)) then
    nnK kq17 fun i19 =>
    chk (i19 < b18.length) <|
    getK b18 i19 fun v20 =>
    nnK kq17 fun i21 =>
    getK list16 i21 fun v22 =>
    bif decide (v20 > v22.2.2.1) then
      kr (false, ())
    else
    kn (list16, (IntKind.wrap .i64 (kq17 + (1 : Int))), b18, ())
  else
  kx (list16, ())
noncomputable def spec_QuotasValid_l2 (x : (List DQuota) × Int × (List Int) × Unit) : Option (((List DQuota) × Int × (List Int) × Unit) ⊕ (((List DQuota) × Unit) ⊕ (Bool × Unit))) :=
  spec_QuotasValid_l2K x.1 x.2.1 x.2.2.1 (fun y => some (.inl y)) (fun a => some (.inr (.inl a))) (fun b => some (.inr (.inr b)))
theorem spec_QuotasValid_l2_eq {γ : Type} (list16 : (List DQuota)) (kq17 : Int) (b18 : (List Int)) (kn : (List DQuota) × Int × (List Int) × Unit → Option γ) (kx : (List DQuota) × Unit → Option γ) (kr : Bool × Unit → Option γ) : spec_QuotasValid_l2K list16 kq17 b18 kn kx kr = (spec_QuotasValid_l2 (list16, kq17, b18, ())).bind fun r => sum3K r kn kx kr := by
  simp only [spec_QuotasValid_l2K, spec_QuotasValid_l2, cond_bind', chk_bind', nnK_bind', getK_bind', getBK_bind', endK_bind', bind_bind', some_bind', none_bind', sum3K_1, sum3K_2, sum3K_3, sum2K_1, sum2K_2]
noncomputable def spec_QuotasValid_l0K {γ : Type} (list2 : (List DQuota)) (kq3 : Int) (b4 : (List Int)) (kn : (List DQuota) × Int × (List Int) × Unit → Option γ) (kx : (List DQuota) × (List Int) × Unit → Option γ) (kr : Bool × Unit → Option γ) : Option γ :=
  bif decide (kq3 < (list2.length : Int)) then
    nnK kq3 fun i5 =>
    getK list2 i5 fun v6 =>
    (spec_l1In v6.1 (-1 : Int) (IntKind.wrap .i64 (kq3 - (1 : Int)))).bind fun r7 =>
    bif (!(!r7)) then
      (spec_l1In v6.2.1 (0 : Int) (10000 : Int)).bind fun r8 =>
      bif (!(!r8)) then
        (spec_l1In v6.2.2.1 (0 : Int) v6.2.1).bind fun r9 =>
        bif (!r9) then
          kr (false, ())
        else
        bif decide (v6.1 ≥ (0 : Int)) then
          nnK v6.1 fun i10 =>
          chk (i10 < b4.length) <|
          getK b4 i10 fun v11 =>
          nnK v6.1 fun i12 =>
          chk (i12 < b4.length) <|
          getK b4 i12 fun y13 =>
          kn (list2, (IntKind.wrap .i64 (kq3 + (1 : Int))), (b4.set i12 (IntKind.wrap .i64 (v11 + v6.2.2.1))), ())
        else
        kn (list2, (IntKind.wrap .i64 (kq3 + (1 : Int))), b4, ())
      else
      kr (false, ())
    else
    kr (false, ())
  else
  kx (list2, b4, ())
noncomputable def spec_QuotasValid_l0 (x : (List DQuota) × Int × (List Int) × Unit) : Option (((List DQuota) × Int × (List Int) × Unit) ⊕ (((List DQuota) × (List Int) × Unit) ⊕ (Bool × Unit))) :=
  spec_QuotasValid_l0K x.1 x.2.1 x.2.2.1 (fun y => some (.inl y)) (fun a => some (.inr (.inl a))) (fun b => some (.inr (.inr b)))
theorem spec_QuotasValid_l0_eq {γ : Type} (list2 : (List DQuota)) (kq3 : Int) (b4 : (List Int)) (kn : (List DQuota) × Int × (List Int) × Unit → Option γ) (kx : (List DQuota) × (List Int) × Unit → Option γ) (kr : Bool × Unit → Option γ) : spec_QuotasValid_l0K list2 kq3 b4 kn kx kr = (spec_QuotasValid_l0 (list2, kq3, b4, ())).bind fun r => sum3K r kn kx kr := by
  simp only [spec_QuotasValid_l0K, spec_QuotasValid_l0, cond_bind', chk_bind', nnK_bind', getK_bind', getBK_bind', endK_bind', bind_bind', some_bind', none_bind', sum3K_1, sum3K_2, sum3K_3, sum2K_1, sum2K_2]
noncomputable def spec_QuotasValidK {γ : Type} (list1 : (List DQuota)) (k : Bool → Option γ) : Option γ :=
  chk (list1.length ≤ bigRow) <|
  (loopF spec_QuotasValid_l0 (list1, (0 : Int), (List.replicate list1.length (0 : Int)), ())).bind fun q => endK q (fun z14 =>
    (loopF spec_QuotasValid_l2 (z14.1, (0 : Int), z14.2.1, ())).bind fun q => endK q (fun z23 =>
      k (decide ((z23.1.length : Int) ≤ (16 : Int)))) (fun z24 =>
      k z24.1)) (fun z15 =>
    k z15.1)
noncomputable def spec_QuotasValid (list1 : (List DQuota)) : Option (Bool) :=
  spec_QuotasValidK list1 some
theorem spec_QuotasValid_eq {γ : Type} (list1 : (List DQuota)) (k : Bool → Option γ) : spec_QuotasValidK list1 k = (spec_QuotasValid list1).bind k := by
  simp only [spec_QuotasValidK, spec_QuotasValid, cond_bind', chk_bind', nnK_bind', getK_bind', getBK_bind', endK_bind', bind_bind', some_bind', none_bind', sum3K_1, sum3K_2, sum3K_3, sum2K_1, sum2K_2]

/-! loop.example/capkernel/impl.in -/
noncomputable def impl_inK {γ : Type} (n1 : Int) (lo2 : Int) (hi3 : Int) (k : Bool → Option γ) : Option γ :=
  bif decide (n1 ≥ lo2) then
    k (decide (n1 ≤ hi3))
  else
  k false
noncomputable def impl_in (n1 : Int) (lo2 : Int) (hi3 : Int) : Option (Bool) :=
  impl_inK n1 lo2 hi3 some
theorem impl_in_eq {γ : Type} (n1 : Int) (lo2 : Int) (hi3 : Int) (k : Bool → Option γ) : impl_inK n1 lo2 hi3 k = (impl_in n1 lo2 hi3).bind k := by
  simp only [impl_inK, impl_in, cond_bind', chk_bind', nnK_bind', getK_bind', getBK_bind', endK_bind', bind_bind', some_bind', none_bind', sum3K_1, sum3K_2, sum3K_3, sum2K_1, sum2K_2]

/-! loop.example/capkernel/impl.parts -/
noncomputable def impl_parts_l0K {γ : Type} (n3 : Int) (sum4 : Int) (a5 : (List DQuota)) (a6 : Int) (a7 : Int) (kn : Int × Int × (List DQuota) × Int × Int × Unit → Option γ) (kx : Int × Unit → Option γ) : Option γ :=
  bif decide (a7 < a6) then
    nnK a7 fun i8 =>
    getK a5 i8 fun v9 =>
    bif (v9.1 == n3) then
      kn (n3, (IntKind.wrap .i64 (sum4 + v9.2.2.1)), a5, a6, (IntKind.wrap .i64 (a7 + (1 : Int))), ())
    else
    kn (n3, sum4, a5, a6, (IntKind.wrap .i64 (a7 + (1 : Int))), ())
  else
  kx (sum4, ())
noncomputable def impl_parts_l0 (x : Int × Int × (List DQuota) × Int × Int × Unit) : Option ((Int × Int × (List DQuota) × Int × Int × Unit) ⊕ (Int × Unit)) :=
  impl_parts_l0K x.1 x.2.1 x.2.2.1 x.2.2.2.1 x.2.2.2.2.1 (fun y => some (.inl y)) (fun a => some (.inr a))
theorem impl_parts_l0_eq {γ : Type} (n3 : Int) (sum4 : Int) (a5 : (List DQuota)) (a6 : Int) (a7 : Int) (kn : Int × Int × (List DQuota) × Int × Int × Unit → Option γ) (kx : Int × Unit → Option γ) : impl_parts_l0K n3 sum4 a5 a6 a7 kn kx = (impl_parts_l0 (n3, sum4, a5, a6, a7, ())).bind fun r => sum2K r kn kx := by
  simp only [impl_parts_l0K, impl_parts_l0, cond_bind', chk_bind', nnK_bind', getK_bind', getBK_bind', endK_bind', bind_bind', some_bind', none_bind', sum3K_1, sum3K_2, sum3K_3, sum2K_1, sum2K_2]
noncomputable def impl_partsK {γ : Type} (list1 : (List DQuota)) (n2 : Int) (k : Int → Option γ) : Option γ :=
  (loopF impl_parts_l0 (n2, (0 : Int), list1, (list1.length : Int), (0 : Int), ())).bind fun z10 =>
  k z10.1
noncomputable def impl_parts (list1 : (List DQuota)) (n2 : Int) : Option (Int) :=
  impl_partsK list1 n2 some
theorem impl_parts_eq {γ : Type} (list1 : (List DQuota)) (n2 : Int) (k : Int → Option γ) : impl_partsK list1 n2 k = (impl_parts list1 n2).bind k := by
  simp only [impl_partsK, impl_parts, cond_bind', chk_bind', nnK_bind', getK_bind', getBK_bind', endK_bind', bind_bind', some_bind', none_bind', sum3K_1, sum3K_2, sum3K_3, sum2K_1, sum2K_2]

/-! loop.example/capkernel/impl.QuotasValid -/
noncomputable def impl_QuotasValid_l2K {γ : Type} (list13 : (List DQuota)) (a14 : (List DQuota)) (a15 : Int) (a16 : Int) (kn : (List DQuota) × (List DQuota) × Int × Int × Unit → Option γ) (kx : (List DQuota) × Unit → Option γ) (kr : Bool × Unit → Option γ) : Option γ :=
  bif decide (a16 < a15) then
    nnK a16 fun i17 =>
    getK a14 i17 fun v18 =>
    (impl_parts list13 a16).bind fun r19 =>
    bif decide (r19 > v18.2.2.1) then
      kr (false, ())
    else
    kn (list13, a14, a15, (IntKind.wrap .i64 (a16 + (1 : Int))), ())
  else
  kx (list13, ())
noncomputable def impl_QuotasValid_l2 (x : (List DQuota) × (List DQuota) × Int × Int × Unit) : Option (((List DQuota) × (List DQuota) × Int × Int × Unit) ⊕ (((List DQuota) × Unit) ⊕ (Bool × Unit))) :=
  impl_QuotasValid_l2K x.1 x.2.1 x.2.2.1 x.2.2.2.1 (fun y => some (.inl y)) (fun a => some (.inr (.inl a))) (fun b => some (.inr (.inr b)))
theorem impl_QuotasValid_l2_eq {γ : Type} (list13 : (List DQuota)) (a14 : (List DQuota)) (a15 : Int) (a16 : Int) (kn : (List DQuota) × (List DQuota) × Int × Int × Unit → Option γ) (kx : (List DQuota) × Unit → Option γ) (kr : Bool × Unit → Option γ) : impl_QuotasValid_l2K list13 a14 a15 a16 kn kx kr = (impl_QuotasValid_l2 (list13, a14, a15, a16, ())).bind fun r => sum3K r kn kx kr := by
  simp only [impl_QuotasValid_l2K, impl_QuotasValid_l2, cond_bind', chk_bind', nnK_bind', getK_bind', getBK_bind', endK_bind', bind_bind', some_bind', none_bind', sum3K_1, sum3K_2, sum3K_3, sum2K_1, sum2K_2]
noncomputable def impl_QuotasValid_l0K {γ : Type} (list2 : (List DQuota)) (a3 : (List DQuota)) (a4 : Int) (a5 : Int) (kn : (List DQuota) × (List DQuota) × Int × Int × Unit → Option γ) (kx : (List DQuota) × Unit → Option γ) (kr : Bool × Unit → Option γ) : Option γ :=
  bif decide (a5 < a4) then
    nnK a5 fun i6 =>
    getK a3 i6 fun v7 =>
    (impl_in v7.1 (-1 : Int) (IntKind.wrap .i64 (a5 - (1 : Int)))).bind fun r8 =>
    bif (!(!r8)) then
      (impl_in v7.2.1 (0 : Int) (10000 : Int)).bind fun r9 =>
      bif (!(!r9)) then
        (impl_in v7.2.2.1 (0 : Int) v7.2.1).bind fun r10 =>
        bif (!r10) then
          kr (false, ())
        else
        kn (list2, a3, a4, (IntKind.wrap .i64 (a5 + (1 : Int))), ())
      else
      kr (false, ())
    else
    kr (false, ())
  else
  kx (list2, ())
noncomputable def impl_QuotasValid_l0 (x : (List DQuota) × (List DQuota) × Int × Int × Unit) : Option (((List DQuota) × (List DQuota) × Int × Int × Unit) ⊕ (((List DQuota) × Unit) ⊕ (Bool × Unit))) :=
  impl_QuotasValid_l0K x.1 x.2.1 x.2.2.1 x.2.2.2.1 (fun y => some (.inl y)) (fun a => some (.inr (.inl a))) (fun b => some (.inr (.inr b)))
theorem impl_QuotasValid_l0_eq {γ : Type} (list2 : (List DQuota)) (a3 : (List DQuota)) (a4 : Int) (a5 : Int) (kn : (List DQuota) × (List DQuota) × Int × Int × Unit → Option γ) (kx : (List DQuota) × Unit → Option γ) (kr : Bool × Unit → Option γ) : impl_QuotasValid_l0K list2 a3 a4 a5 kn kx kr = (impl_QuotasValid_l0 (list2, a3, a4, a5, ())).bind fun r => sum3K r kn kx kr := by
  simp only [impl_QuotasValid_l0K, impl_QuotasValid_l0, cond_bind', chk_bind', nnK_bind', getK_bind', getBK_bind', endK_bind', bind_bind', some_bind', none_bind', sum3K_1, sum3K_2, sum3K_3, sum2K_1, sum2K_2]
noncomputable def impl_QuotasValidK {γ : Type} (list1 : (List DQuota)) (k : Bool → Option γ) : Option γ :=
  (loopF impl_QuotasValid_l0 (list1, list1, (list1.length : Int), (0 : Int), ())).bind fun q => endK q (fun z11 =>
    (loopF impl_QuotasValid_l2 (z11.1, z11.1, (z11.1.length : Int), (0 : Int), ())).bind fun q => endK q (fun z20 =>
      k (decide ((z20.1.length : Int) ≤ (16 : Int)))) (fun z21 =>
      k z21.1)) (fun z12 =>
    k z12.1)
noncomputable def impl_QuotasValid (list1 : (List DQuota)) : Option (Bool) :=
  impl_QuotasValidK list1 some
theorem impl_QuotasValid_eq {γ : Type} (list1 : (List DQuota)) (k : Bool → Option γ) : impl_QuotasValidK list1 k = (impl_QuotasValid list1).bind k := by
  simp only [impl_QuotasValidK, impl_QuotasValid, cond_bind', chk_bind', nnK_bind', getK_bind', getBK_bind', endK_bind', bind_bind', some_bind', none_bind', sum3K_1, sum3K_2, sum3K_3, sum2K_1, sum2K_2]

/-! loop.example/capkernel/laws.eqQuota -/
noncomputable def laws_eqQuotaK {γ : Type} (a1 : DQuota) (b2 : DQuota) (k : Bool → Option γ) : Option γ :=
  bif (a1.1 != b2.1) then
    k false
  else
  bif (a1.2.1 != b2.2.1) then
    k false
  else
  bif (a1.2.2.1 != b2.2.2.1) then
    k false
  else
  k true
noncomputable def laws_eqQuota (a1 : DQuota) (b2 : DQuota) : Option (Bool) :=
  laws_eqQuotaK a1 b2 some
theorem laws_eqQuota_eq {γ : Type} (a1 : DQuota) (b2 : DQuota) (k : Bool → Option γ) : laws_eqQuotaK a1 b2 k = (laws_eqQuota a1 b2).bind k := by
  simp only [laws_eqQuotaK, laws_eqQuota, cond_bind', chk_bind', nnK_bind', getK_bind', getBK_bind', endK_bind', bind_bind', some_bind', none_bind', sum3K_1, sum3K_2, sum3K_3, sum2K_1, sum2K_2]

/-! loop.example/capkernel/laws.eqQuotaS -/
noncomputable def laws_eqQuotaS_l0K {γ : Type} (a3 : (List DQuota)) (b4 : (List DQuota)) (i5 : Int) (kn : (List DQuota) × (List DQuota) × Int × Unit → Option γ) (kx : Unit → Option γ) (kr : Bool × Unit → Option γ) : Option γ :=
  bif decide (i5 < (a3.length : Int)) then
    nnK i5 fun i6 =>
    getK a3 i6 fun v7 =>
    nnK i5 fun i8 =>
    getK b4 i8 fun v9 =>
    (laws_eqQuota v7 v9).bind fun r10 =>
    bif (!r10) then
      kr (false, ())
    else
    kn (a3, b4, (IntKind.wrap .i64 (i5 + (1 : Int))), ())
  else
  kx ()
noncomputable def laws_eqQuotaS_l0 (x : (List DQuota) × (List DQuota) × Int × Unit) : Option (((List DQuota) × (List DQuota) × Int × Unit) ⊕ ((Unit) ⊕ (Bool × Unit))) :=
  laws_eqQuotaS_l0K x.1 x.2.1 x.2.2.1 (fun y => some (.inl y)) (fun a => some (.inr (.inl a))) (fun b => some (.inr (.inr b)))
theorem laws_eqQuotaS_l0_eq {γ : Type} (a3 : (List DQuota)) (b4 : (List DQuota)) (i5 : Int) (kn : (List DQuota) × (List DQuota) × Int × Unit → Option γ) (kx : Unit → Option γ) (kr : Bool × Unit → Option γ) : laws_eqQuotaS_l0K a3 b4 i5 kn kx kr = (laws_eqQuotaS_l0 (a3, b4, i5, ())).bind fun r => sum3K r kn kx kr := by
  simp only [laws_eqQuotaS_l0K, laws_eqQuotaS_l0, cond_bind', chk_bind', nnK_bind', getK_bind', getBK_bind', endK_bind', bind_bind', some_bind', none_bind', sum3K_1, sum3K_2, sum3K_3, sum2K_1, sum2K_2]
noncomputable def laws_eqQuotaSK {γ : Type} (a1 : (List DQuota)) (b2 : (List DQuota)) (k : Bool → Option γ) : Option γ :=
  bif ((a1.length : Int) != (b2.length : Int)) then
    k false
  else
  (loopF laws_eqQuotaS_l0 (a1, b2, (0 : Int), ())).bind fun q => endK q (fun z11 =>
    k true) (fun z12 =>
    k z12.1)
noncomputable def laws_eqQuotaS (a1 : (List DQuota)) (b2 : (List DQuota)) : Option (Bool) :=
  laws_eqQuotaSK a1 b2 some
theorem laws_eqQuotaS_eq {γ : Type} (a1 : (List DQuota)) (b2 : (List DQuota)) (k : Bool → Option γ) : laws_eqQuotaSK a1 b2 k = (laws_eqQuotaS a1 b2).bind k := by
  simp only [laws_eqQuotaSK, laws_eqQuotaS, cond_bind', chk_bind', nnK_bind', getK_bind', getBK_bind', endK_bind', bind_bind', some_bind', none_bind', sum3K_1, sum3K_2, sum3K_3, sum2K_1, sum2K_2]

/-! loop.example/capkernel/laws.FnExactQuotasValid -/
noncomputable def laws_FnExactQuotasValidK {γ : Type} (aList1 : (List DQuota)) (k : Bool → Option γ) : Option γ :=
  (laws_szQuotaS aList1 (1048576 : Int)).bind fun r2 =>
  bif decide (r2 < (0 : Int)) then
    k true
  else
  (laws_toQuotaS aList1).bind fun r3 =>
  (spec_QuotasValid r3).bind fun r4 =>
  (laws_toQuotaS aList1).bind fun r5 =>
  (impl_QuotasValid r5).bind fun r6 =>
  bif (!(r6 == r4)) then
    k false
  else
  (laws_toQuotaS aList1).bind fun r7 =>
  (laws_eqQuotaS r5 r7).bind fun r8 =>
  bif (!r8) then
    k false
  else
  k true
noncomputable def laws_FnExactQuotasValid (aList1 : (List DQuota)) : Option (Bool) :=
  laws_FnExactQuotasValidK aList1 some
theorem laws_FnExactQuotasValid_eq {γ : Type} (aList1 : (List DQuota)) (k : Bool → Option γ) : laws_FnExactQuotasValidK aList1 k = (laws_FnExactQuotasValid aList1).bind k := by
  simp only [laws_FnExactQuotasValidK, laws_FnExactQuotasValid, cond_bind', chk_bind', nnK_bind', getK_bind', getBK_bind', endK_bind', bind_bind', some_bind', none_bind', sum3K_1, sum3K_2, sum3K_3, sum2K_1, sum2K_2]

/-! loop.example/capkernel/spec.QuotaRoom -/
noncomputable def spec_QuotaRoom_l0K {γ : Type} (list5 : (List DQuota)) (n6 : Int) (room7 : Int) (kn : (List DQuota) × Int × Int × Unit → Option γ) (kx : Int × Unit → Option γ) : Option γ :=
  bif decide (n6 ≥ (0 : Int)) then
    nnK n6 fun i8 =>
    getK list5 i8 fun v9 =>
    nnK n6 fun i10 =>
    getK list5 i10 fun v11 =>
    nnK n6 fun i12 =>
    getK list5 i12 fun v13 =>
    kn (list5, v13.1, (if (IntKind.wrap .i64 (v9.2.1 - v11.2.2.1)) < room7 then (IntKind.wrap .i64 (v9.2.1 - v11.2.2.1)) else room7), ())
  else
  kx (room7, ())
noncomputable def spec_QuotaRoom_l0 (x : (List DQuota) × Int × Int × Unit) : Option (((List DQuota) × Int × Int × Unit) ⊕ (Int × Unit)) :=
  spec_QuotaRoom_l0K x.1 x.2.1 x.2.2.1 (fun y => some (.inl y)) (fun a => some (.inr a))
theorem spec_QuotaRoom_l0_eq {γ : Type} (list5 : (List DQuota)) (n6 : Int) (room7 : Int) (kn : (List DQuota) × Int × Int × Unit → Option γ) (kx : Int × Unit → Option γ) : spec_QuotaRoom_l0K list5 n6 room7 kn kx = (spec_QuotaRoom_l0 (list5, n6, room7, ())).bind fun r => sum2K r kn kx := by
  simp only [spec_QuotaRoom_l0K, spec_QuotaRoom_l0, cond_bind', chk_bind', nnK_bind', getK_bind', getBK_bind', endK_bind', bind_bind', some_bind', none_bind', sum3K_1, sum3K_2, sum3K_3, sum2K_1, sum2K_2]
noncomputable def spec_QuotaRoomK {γ : Type} (list1 : (List DQuota)) (n2 : Int) (k : Int → Option γ) : Option γ :=
  (spec_QuotasValid list1).bind fun r3 =>
  bif (!(!r3)) then
    (spec_l1In n2 (0 : Int) (IntKind.wrap .i64 ((list1.length : Int) - (1 : Int)))).bind fun r4 =>
    bif (!r4) then
      k (-1 : Int)
    else
    (loopF spec_QuotaRoom_l0 (list1, n2, (10000 : Int), ())).bind fun z14 =>
    k z14.1
  else
  k (-1 : Int)
noncomputable def spec_QuotaRoom (list1 : (List DQuota)) (n2 : Int) : Option (Int) :=
  spec_QuotaRoomK list1 n2 some
theorem spec_QuotaRoom_eq {γ : Type} (list1 : (List DQuota)) (n2 : Int) (k : Int → Option γ) : spec_QuotaRoomK list1 n2 k = (spec_QuotaRoom list1 n2).bind k := by
  simp only [spec_QuotaRoomK, spec_QuotaRoom, cond_bind', chk_bind', nnK_bind', getK_bind', getBK_bind', endK_bind', bind_bind', some_bind', none_bind', sum3K_1, sum3K_2, sum3K_3, sum2K_1, sum2K_2]

/-! loop.example/capkernel/impl.quoted -/
noncomputable def impl_quotedK {γ : Type} (list1 : (List DQuota)) (n2 : Int) (k : Bool → Option γ) : Option γ :=
  (impl_QuotasValid list1).bind fun r3 =>
  bif r3 then
    (impl_in n2 (0 : Int) (IntKind.wrap .i64 ((list1.length : Int) - (1 : Int)))).bind fun r4 =>
    k r4
  else
  k false
noncomputable def impl_quoted (list1 : (List DQuota)) (n2 : Int) : Option (Bool) :=
  impl_quotedK list1 n2 some
theorem impl_quoted_eq {γ : Type} (list1 : (List DQuota)) (n2 : Int) (k : Bool → Option γ) : impl_quotedK list1 n2 k = (impl_quoted list1 n2).bind k := by
  simp only [impl_quotedK, impl_quoted, cond_bind', chk_bind', nnK_bind', getK_bind', getBK_bind', endK_bind', bind_bind', some_bind', none_bind', sum3K_1, sum3K_2, sum3K_3, sum2K_1, sum2K_2]

/-! loop.example/capkernel/impl.QuotaRoom -/
noncomputable def impl_QuotaRoom_l0K {γ : Type} (list4 : (List DQuota)) (n5 : Int) (room6 : Int) (kn : (List DQuota) × Int × Int × Unit → Option γ) (kx : Int × Unit → Option γ) : Option γ :=
  bif decide (n5 ≥ (0 : Int)) then
    nnK n5 fun i7 =>
    getK list4 i7 fun v8 =>
    nnK n5 fun i9 =>
    getK list4 i9 fun v10 =>
    nnK n5 fun i11 =>
    getK list4 i11 fun v12 =>
    kn (list4, v12.1, (if (IntKind.wrap .i64 (v8.2.1 - v10.2.2.1)) < room6 then (IntKind.wrap .i64 (v8.2.1 - v10.2.2.1)) else room6), ())
  else
  kx (room6, ())
noncomputable def impl_QuotaRoom_l0 (x : (List DQuota) × Int × Int × Unit) : Option (((List DQuota) × Int × Int × Unit) ⊕ (Int × Unit)) :=
  impl_QuotaRoom_l0K x.1 x.2.1 x.2.2.1 (fun y => some (.inl y)) (fun a => some (.inr a))
theorem impl_QuotaRoom_l0_eq {γ : Type} (list4 : (List DQuota)) (n5 : Int) (room6 : Int) (kn : (List DQuota) × Int × Int × Unit → Option γ) (kx : Int × Unit → Option γ) : impl_QuotaRoom_l0K list4 n5 room6 kn kx = (impl_QuotaRoom_l0 (list4, n5, room6, ())).bind fun r => sum2K r kn kx := by
  simp only [impl_QuotaRoom_l0K, impl_QuotaRoom_l0, cond_bind', chk_bind', nnK_bind', getK_bind', getBK_bind', endK_bind', bind_bind', some_bind', none_bind', sum3K_1, sum3K_2, sum3K_3, sum2K_1, sum2K_2]
noncomputable def impl_QuotaRoomK {γ : Type} (list1 : (List DQuota)) (n2 : Int) (k : Int → Option γ) : Option γ :=
  (impl_quoted list1 n2).bind fun r3 =>
  bif (!r3) then
    k (-1 : Int)
  else
  (loopF impl_QuotaRoom_l0 (list1, n2, (10000 : Int), ())).bind fun z13 =>
  k z13.1
noncomputable def impl_QuotaRoom (list1 : (List DQuota)) (n2 : Int) : Option (Int) :=
  impl_QuotaRoomK list1 n2 some
theorem impl_QuotaRoom_eq {γ : Type} (list1 : (List DQuota)) (n2 : Int) (k : Int → Option γ) : impl_QuotaRoomK list1 n2 k = (impl_QuotaRoom list1 n2).bind k := by
  simp only [impl_QuotaRoomK, impl_QuotaRoom, cond_bind', chk_bind', nnK_bind', getK_bind', getBK_bind', endK_bind', bind_bind', some_bind', none_bind', sum3K_1, sum3K_2, sum3K_3, sum2K_1, sum2K_2]

/-! loop.example/capkernel/laws.FnExactQuotaRoom -/
noncomputable def laws_FnExactQuotaRoomK {γ : Type} (aList1 : (List DQuota)) (aN2 : Int) (k : Bool → Option γ) : Option γ :=
  (laws_szQuotaS aList1 (1048576 : Int)).bind fun r3 =>
  bif decide (r3 < (0 : Int)) then
    k true
  else
  (laws_toQuotaS aList1).bind fun r4 =>
  (spec_QuotaRoom r4 aN2).bind fun r5 =>
  (laws_toQuotaS aList1).bind fun r6 =>
  (impl_QuotaRoom r6 aN2).bind fun r7 =>
  bif (r7 != r5) then
    k false
  else
  (laws_toQuotaS aList1).bind fun r8 =>
  (laws_eqQuotaS r6 r8).bind fun r9 =>
  bif (!r9) then
    k false
  else
  k true
noncomputable def laws_FnExactQuotaRoom (aList1 : (List DQuota)) (aN2 : Int) : Option (Bool) :=
  laws_FnExactQuotaRoomK aList1 aN2 some
theorem laws_FnExactQuotaRoom_eq {γ : Type} (aList1 : (List DQuota)) (aN2 : Int) (k : Bool → Option γ) : laws_FnExactQuotaRoomK aList1 aN2 k = (laws_FnExactQuotaRoom aList1 aN2).bind k := by
  simp only [laws_FnExactQuotaRoomK, laws_FnExactQuotaRoom, cond_bind', chk_bind', nnK_bind', getK_bind', getBK_bind', endK_bind', bind_bind', some_bind', none_bind', sum3K_1, sum3K_2, sum3K_3, sum2K_1, sum2K_2]

/-! loop.example/capkernel/spec.l20Open -/
noncomputable def spec_l20OpenK {γ : Type} (code1 : (List Int)) (k : Dl20Rd → Option γ) : Option γ :=
  bif decide ((code1.length : Int) > (2000 : Int)) then
    chk (2000 ≤ code1.length) <|
    k ((code1.take 2000), (0 : Int), ())
  else
  k (code1, (0 : Int), ())
noncomputable def spec_l20Open (code1 : (List Int)) : Option (Dl20Rd) :=
  spec_l20OpenK code1 some
theorem spec_l20Open_eq {γ : Type} (code1 : (List Int)) (k : Dl20Rd → Option γ) : spec_l20OpenK code1 k = (spec_l20Open code1).bind k := by
  simp only [spec_l20OpenK, spec_l20Open, cond_bind', chk_bind', nnK_bind', getK_bind', getBK_bind', endK_bind', bind_bind', some_bind', none_bind', sum3K_1, sum3K_2, sum3K_3, sum2K_1, sum2K_2]

/-! (*loop.example/capkernel/spec.l20Rd).pick -/
noncomputable def spec_l20Rd_pickK {γ : Type} (n1 : Int) (b2 : Dl20Rd) (k : Int × Dl20Rd → Option γ) : Option γ :=
  bif (!decide (n1 < (1 : Int))) then
    bif ((b2.1.length : Int) == (0 : Int)) then
      k ((0 : Int), (b2.1, (IntKind.wrap .i64 (b2.2.1 + (1 : Int))), ()))
    else
    bif decide ((IntKind.wrap .i64 ((IntKind.wrap .i64 (b2.2.1 + (1 : Int))) - (1 : Int))) < (b2.1.length : Int)) then
      nnK (IntKind.wrap .i64 ((IntKind.wrap .i64 (b2.2.1 + (1 : Int))) - (1 : Int))) fun i3 =>
      getK b2.1 i3 fun v4 =>
      chk (n1 ≠ 0) <|
      k ((Int.tmod (IntKind.wrap .i64 (v4)) n1), (b2.1, (IntKind.wrap .i64 (b2.2.1 + (1 : Int))), ()))
    else
    chk ((b2.1.length : Int) ≠ 0) <|
    nnK (Int.tmod (IntKind.wrap .i64 ((IntKind.wrap .i64 (b2.2.1 + (1 : Int))) - (1 : Int))) (b2.1.length : Int)) fun i5 =>
    getK b2.1 i5 fun v6 =>
    chk ((b2.1.length : Int) ≠ 0) <|
    nnK (Int.tmod (IntKind.wrap .i64 ((IntKind.wrap .i64 ((IntKind.wrap .i64 ((IntKind.wrap .i64 (b2.2.1 + (1 : Int))) - (1 : Int))) * (7 : Int))) + (3 : Int))) (b2.1.length : Int)) fun i7 =>
    getK b2.1 i7 fun v8 =>
    chk ((b2.1.length : Int) ≠ 0) <|
    chk (n1 ≠ 0) <|
    k ((Int.tmod (IntKind.wrap .i64 (((BitVec.ofInt 64 (IntKind.wrap .i64 ((IntKind.wrap .i64 ((IntKind.wrap .i64 ((IntKind.wrap .i64 ((IntKind.wrap .i64 (v6)) * (131 : Int))) + (IntKind.wrap .i64 ((IntKind.wrap .i64 (v8)) * (1117 : Int))))) + (IntKind.wrap .i64 ((IntKind.wrap .i64 ((IntKind.wrap .i64 (b2.2.1 + (1 : Int))) - (1 : Int))) * (29 : Int))))) + (IntKind.wrap .i64 ((IntKind.wrap .i64 (Int.tdiv (IntKind.wrap .i64 ((IntKind.wrap .i64 (b2.2.1 + (1 : Int))) - (1 : Int))) (b2.1.length : Int))) * (53 : Int))))) ^^^ BitVec.ofInt 64 (IntKind.wrap .i64 (Int.tdiv (IntKind.wrap .i64 ((IntKind.wrap .i64 ((IntKind.wrap .i64 ((IntKind.wrap .i64 ((IntKind.wrap .i64 (v6)) * (131 : Int))) + (IntKind.wrap .i64 ((IntKind.wrap .i64 (v8)) * (1117 : Int))))) + (IntKind.wrap .i64 ((IntKind.wrap .i64 ((IntKind.wrap .i64 (b2.2.1 + (1 : Int))) - (1 : Int))) * (29 : Int))))) + (IntKind.wrap .i64 ((IntKind.wrap .i64 (Int.tdiv (IntKind.wrap .i64 ((IntKind.wrap .i64 (b2.2.1 + (1 : Int))) - (1 : Int))) (b2.1.length : Int))) * (53 : Int))))) (64 : Int)))).toNat : Int))) n1), (b2.1, (IntKind.wrap .i64 (b2.2.1 + (1 : Int))), ()))
  else
  k ((0 : Int), (b2.1, (IntKind.wrap .i64 (b2.2.1 + (1 : Int))), ()))
noncomputable def spec_l20Rd_pick (n1 : Int) (b2 : Dl20Rd) : Option (Int × Dl20Rd) :=
  spec_l20Rd_pickK n1 b2 some
theorem spec_l20Rd_pick_eq {γ : Type} (n1 : Int) (b2 : Dl20Rd) (k : Int × Dl20Rd → Option γ) : spec_l20Rd_pickK n1 b2 k = (spec_l20Rd_pick n1 b2).bind k := by
  simp only [spec_l20Rd_pickK, spec_l20Rd_pick, cond_bind', chk_bind', nnK_bind', getK_bind', getBK_bind', endK_bind', bind_bind', some_bind', none_bind', sum3K_1, sum3K_2, sum3K_3, sum2K_1, sum2K_2]

/-! loop.example/capkernel/spec.UseQuota -/
noncomputable def spec_UseQuota_l0K {γ : Type} (n5 : Int) (amount6 : Int) (b7 : (List DQuota)) (kn : Int × Int × (List DQuota) × Unit → Option γ) (kx : (List DQuota) × Unit → Option γ) : Option γ :=
  bif decide (n5 ≥ (0 : Int)) then
    nnK n5 fun i8 =>
    chk (i8 < b7.length) <|
    getK b7 i8 fun v9 =>
    nnK n5 fun i10 =>
    chk (i10 < b7.length) <|
    getK b7 i10 fun y11 =>
    nnK n5 fun i12 =>
    chk (i12 < (b7.set i10 (y11.1, y11.2.1, (IntKind.wrap .i64 (v9.2.2.1 + amount6)), ())).length) <|
    getK (b7.set i10 (y11.1, y11.2.1, (IntKind.wrap .i64 (v9.2.2.1 + amount6)), ())) i12 fun v13 =>
    kn (v13.1, amount6, (b7.set i10 (y11.1, y11.2.1, (IntKind.wrap .i64 (v9.2.2.1 + amount6)), ())), ())
  else
  kx (b7, ())
noncomputable def spec_UseQuota_l0 (x : Int × Int × (List DQuota) × Unit) : Option ((Int × Int × (List DQuota) × Unit) ⊕ ((List DQuota) × Unit)) :=
  spec_UseQuota_l0K x.1 x.2.1 x.2.2.1 (fun y => some (.inl y)) (fun a => some (.inr a))
theorem spec_UseQuota_l0_eq {γ : Type} (n5 : Int) (amount6 : Int) (b7 : (List DQuota)) (kn : Int × Int × (List DQuota) × Unit → Option γ) (kx : (List DQuota) × Unit → Option γ) : spec_UseQuota_l0K n5 amount6 b7 kn kx = (spec_UseQuota_l0 (n5, amount6, b7, ())).bind fun r => sum2K r kn kx := by
  simp only [spec_UseQuota_l0K, spec_UseQuota_l0, cond_bind', chk_bind', nnK_bind', getK_bind', getBK_bind', endK_bind', bind_bind', some_bind', none_bind', sum3K_1, sum3K_2, sum3K_3, sum2K_1, sum2K_2]
noncomputable def spec_UseQuotaK {γ : Type} (list1 : (List DQuota)) (n2 : Int) (amount3 : Int) (k : Bool × (List DQuota) → Option γ) : Option γ :=
  (spec_QuotaRoom list1 n2).bind fun r4 =>
  bif (!decide (r4 < (0 : Int))) then
    bif decide (amount3 < (0 : Int)) then
      k (false, [])
    else
    chk (list1.length ≤ bigRow) <|
    bif decide (amount3 > r4) then
      k (false, list1)
    else
    (loopF spec_UseQuota_l0 (n2, amount3, list1, ())).bind fun z14 =>
    k (true, z14.1)
  else
  k (false, [])
noncomputable def spec_UseQuota (list1 : (List DQuota)) (n2 : Int) (amount3 : Int) : Option (Bool × (List DQuota)) :=
  spec_UseQuotaK list1 n2 amount3 some
theorem spec_UseQuota_eq {γ : Type} (list1 : (List DQuota)) (n2 : Int) (amount3 : Int) (k : Bool × (List DQuota) → Option γ) : spec_UseQuotaK list1 n2 amount3 k = (spec_UseQuota list1 n2 amount3).bind k := by
  simp only [spec_UseQuotaK, spec_UseQuota, cond_bind', chk_bind', nnK_bind', getK_bind', getBK_bind', endK_bind', bind_bind', some_bind', none_bind', sum3K_1, sum3K_2, sum3K_3, sum2K_1, sum2K_2]

/-! (*loop.example/capkernel/spec.l20Rd).odd -/
noncomputable def spec_l20Rd_oddK {γ : Type} (n1 : Int) (b2 : Dl20Rd) (k : Bool × Dl20Rd → Option γ) : Option γ :=
  bif decide (n1 > (0 : Int)) then
    (spec_l20Rd_pick n1 b2).bind fun r3 =>
    k ((r3.1 == (IntKind.wrap .i64 (n1 - (1 : Int)))), r3.2)
  else
  k (false, b2)
noncomputable def spec_l20Rd_odd (n1 : Int) (b2 : Dl20Rd) : Option (Bool × Dl20Rd) :=
  spec_l20Rd_oddK n1 b2 some
theorem spec_l20Rd_odd_eq {γ : Type} (n1 : Int) (b2 : Dl20Rd) (k : Bool × Dl20Rd → Option γ) : spec_l20Rd_oddK n1 b2 k = (spec_l20Rd_odd n1 b2).bind k := by
  simp only [spec_l20Rd_oddK, spec_l20Rd_odd, cond_bind', chk_bind', nnK_bind', getK_bind', getBK_bind', endK_bind', bind_bind', some_bind', none_bind', sum3K_1, sum3K_2, sum3K_3, sum2K_1, sum2K_2]

/-! loop.example/capkernel/spec.l20Quotas -/
noncomputable def spec_l20Quotas_l2K {γ : Type} (n12 : Int) (kq13 : Int) (b14 : Dl20Rd) (b15 : (List DQuota)) (kn : Int × Int × Dl20Rd × (List DQuota) × Unit → Option γ) (kx : Int × Dl20Rd × (List DQuota) × Unit → Option γ) : Option γ :=
  bif decide (kq13 > (0 : Int)) then
    (spec_l20Rd_pick (b15.length : Int) b14).bind fun r16 =>
    (spec_l20Rd_pick (30 : Int) r16.2).bind fun r17 =>
    (spec_UseQuota b15 r16.1 r17.1).bind fun r18 =>
    kn (n12, (IntKind.wrap .i64 (kq13 - (1 : Int))), r17.2, r18.2, ())
  else
  kx (n12, b14, b15, ())
noncomputable def spec_l20Quotas_l2 (x : Int × Int × Dl20Rd × (List DQuota) × Unit) : Option ((Int × Int × Dl20Rd × (List DQuota) × Unit) ⊕ (Int × Dl20Rd × (List DQuota) × Unit)) :=
  spec_l20Quotas_l2K x.1 x.2.1 x.2.2.1 x.2.2.2.1 (fun y => some (.inl y)) (fun a => some (.inr a))
theorem spec_l20Quotas_l2_eq {γ : Type} (n12 : Int) (kq13 : Int) (b14 : Dl20Rd) (b15 : (List DQuota)) (kn : Int × Int × Dl20Rd × (List DQuota) × Unit → Option γ) (kx : Int × Dl20Rd × (List DQuota) × Unit → Option γ) : spec_l20Quotas_l2K n12 kq13 b14 b15 kn kx = (spec_l20Quotas_l2 (n12, kq13, b14, b15, ())).bind fun r => sum2K r kn kx := by
  simp only [spec_l20Quotas_l2K, spec_l20Quotas_l2, cond_bind', chk_bind', nnK_bind', getK_bind', getBK_bind', endK_bind', bind_bind', some_bind', none_bind', sum3K_1, sum3K_2, sum3K_3, sum2K_1, sum2K_2]
noncomputable def spec_l20Quotas_l0K {γ : Type} (n3 : Int) (kq4 : Int) (b5 : Dl20Rd) (b6 : (List DQuota)) (kn : Int × Int × Dl20Rd × (List DQuota) × Unit → Option γ) (kx : Int × Dl20Rd × (List DQuota) × Unit → Option γ) : Option γ :=
  (spec_l20Rd_pick (7 : Int) b5).bind fun r7 =>
  bif decide (kq4 < (IntKind.wrap .i64 ((1 : Int) + r7.1))) then
    (spec_l20Rd_pick (IntKind.wrap .i64 (kq4 + (1 : Int))) r7.2).bind fun r8 =>
    (spec_l20Rd_pick (100 : Int) r8.2).bind fun r9 =>
    chk ((b6.length + 1) ≤ bigRow) <|
    kn (n3, (IntKind.wrap .i64 (kq4 + (1 : Int))), r9.2, (b6 ++ [((IntKind.wrap .i64 (r8.1 - (1 : Int))), (IntKind.wrap .i64 ((20 : Int) + r9.1)), (0 : Int), ())]), ())
  else
  kx (n3, r7.2, b6, ())
noncomputable def spec_l20Quotas_l0 (x : Int × Int × Dl20Rd × (List DQuota) × Unit) : Option ((Int × Int × Dl20Rd × (List DQuota) × Unit) ⊕ (Int × Dl20Rd × (List DQuota) × Unit)) :=
  spec_l20Quotas_l0K x.1 x.2.1 x.2.2.1 x.2.2.2.1 (fun y => some (.inl y)) (fun a => some (.inr a))
theorem spec_l20Quotas_l0_eq {γ : Type} (n3 : Int) (kq4 : Int) (b5 : Dl20Rd) (b6 : (List DQuota)) (kn : Int × Int × Dl20Rd × (List DQuota) × Unit → Option γ) (kx : Int × Dl20Rd × (List DQuota) × Unit → Option γ) : spec_l20Quotas_l0K n3 kq4 b5 b6 kn kx = (spec_l20Quotas_l0 (n3, kq4, b5, b6, ())).bind fun r => sum2K r kn kx := by
  simp only [spec_l20Quotas_l0K, spec_l20Quotas_l0, cond_bind', chk_bind', nnK_bind', getK_bind', getBK_bind', endK_bind', bind_bind', some_bind', none_bind', sum3K_1, sum3K_2, sum3K_3, sum2K_1, sum2K_2]
noncomputable def spec_l20QuotasK {γ : Type} (n1 : Int) (b2 : Dl20Rd) (k : Dl20Rd × (List DQuota) → Option γ) : Option γ :=
  (loopF spec_l20Quotas_l0 (n1, (0 : Int), b2, [], ())).bind fun z10 =>
  (spec_l20Rd_pick (8 : Int) z10.2.1).bind fun r11 =>
  (loopF spec_l20Quotas_l2 (z10.1, r11.1, r11.2, z10.2.2.1, ())).bind fun z19 =>
  (spec_l20Rd_odd z19.1 z19.2.1).bind fun r20 =>
  bif r20.1 then
    (spec_l20Rd_pick (z19.2.2.1.length : Int) r20.2).bind fun r21 =>
    (spec_l20Rd_pick (3 : Int) r21.2).bind fun r22 =>
    bif (r22.1 == (0 : Int)) then
      nnK r21.1 fun i24 =>
      chk (i24 < z19.2.2.1.length) <|
      getK z19.2.2.1 i24 fun v26 =>
      (spec_l20Rd_pick (2 : Int) r22.2).bind fun r27 =>
      nnK r27.1 fun i28 =>
      getK [(-1 : Int), (IntKind.wrap .i64 (v26.2.1 + (1 : Int)))] i28 fun v29 =>
      nnK r21.1 fun i30 =>
      chk (i30 < z19.2.2.1.length) <|
      getK z19.2.2.1 i30 fun y31 =>
      k (r27.2, (z19.2.2.1.set i30 (y31.1, y31.2.1, v29, ())))
    else
    bif (r22.1 == (1 : Int)) then
      nnK r21.1 fun i32 =>
      chk (i32 < z19.2.2.1.length) <|
      getK z19.2.2.1 i32 fun y33 =>
      k (r22.2, (z19.2.2.1.set i32 (r21.1, y33.2.1, y33.2.2.1, ())))
    else
    nnK r21.1 fun i34 =>
    chk (i34 < z19.2.2.1.length) <|
    getK z19.2.2.1 i34 fun y35 =>
    k (r22.2, (z19.2.2.1.set i34 (y35.1, (10001 : Int), y35.2.2.1, ())))
  else
  k (r20.2, z19.2.2.1)
noncomputable def spec_l20Quotas (n1 : Int) (b2 : Dl20Rd) : Option (Dl20Rd × (List DQuota)) :=
  spec_l20QuotasK n1 b2 some
theorem spec_l20Quotas_eq {γ : Type} (n1 : Int) (b2 : Dl20Rd) (k : Dl20Rd × (List DQuota) → Option γ) : spec_l20QuotasK n1 b2 k = (spec_l20Quotas n1 b2).bind k := by
  simp only [spec_l20QuotasK, spec_l20Quotas, cond_bind', chk_bind', nnK_bind', getK_bind', getBK_bind', endK_bind', bind_bind', some_bind', none_bind', sum3K_1, sum3K_2, sum3K_3, sum2K_1, sum2K_2]

/-! loop.example/capkernel/spec.DrawQuotasValid -/
noncomputable def spec_DrawQuotasValidK {γ : Type} (code1 : (List Int)) (k : (List DQuota) → Option γ) : Option γ :=
  (spec_l20Open code1).bind fun r2 =>
  (spec_l20Quotas (2 : Int) r2).bind fun r3 =>
  k r3.2
noncomputable def spec_DrawQuotasValid (code1 : (List Int)) : Option ((List DQuota)) :=
  spec_DrawQuotasValidK code1 some
theorem spec_DrawQuotasValid_eq {γ : Type} (code1 : (List Int)) (k : (List DQuota) → Option γ) : spec_DrawQuotasValidK code1 k = (spec_DrawQuotasValid code1).bind k := by
  simp only [spec_DrawQuotasValidK, spec_DrawQuotasValid, cond_bind', chk_bind', nnK_bind', getK_bind', getBK_bind', endK_bind', bind_bind', some_bind', none_bind', sum3K_1, sum3K_2, sum3K_3, sum2K_1, sum2K_2]

/-! loop.example/capkernel/laws.alive -/
noncomputable def laws_aliveK {γ : Type}  (k : Bool → Option γ) : Option γ :=
  k true
noncomputable def laws_alive  : Option (Bool) :=
  laws_aliveK  some
theorem laws_alive_eq {γ : Type}  (k : Bool → Option γ) : laws_aliveK  k = (laws_alive ).bind k := by
  simp only [laws_aliveK, laws_alive, cond_bind', chk_bind', nnK_bind', getK_bind', getBK_bind', endK_bind', bind_bind', some_bind', none_bind', sum3K_1, sum3K_2, sum3K_3, sum2K_1, sum2K_2]

/-! loop.example/capkernel/laws.FnQuotasValid -/
noncomputable def laws_FnQuotasValidK {γ : Type} (code1 : (List Int)) (k : Bool → Option γ) : Option γ :=
  bif decide ((code1.length : Int) > (1048576 : Int)) then
    k true
  else
  (spec_DrawQuotasValid code1).bind fun r2 =>
  (impl_QuotasValid r2).bind fun r3 =>
  (spec_QuotasValid r2).bind fun r4 =>
  bif (!(r3 == r4)) then
    k false
  else
  bif (!(!r3)) then
    nnK (IntKind.wrap .i64 (Int.tdiv (r2.length : Int) (2 : Int))) fun i5 =>
    chk (i5 ≤ r2.length) <|
    (impl_QuotasValid (r2.take i5)).bind fun r6 =>
    bif r6 then
      chk (r2.length ≤ bigRow) <|
      chk ((r2.length + 1) ≤ bigRow) <|
      (impl_QuotasValid (r2 ++ [((-1 : Int), (5 : Int), (6 : Int), ())])).bind fun r7 =>
      bif (!r7) then
        (laws_alive).bind fun r8 =>
        k r8
      else
      k false
    else
    k false
  else
  chk (r2.length ≤ bigRow) <|
  chk ((r2.length + 1) ≤ bigRow) <|
  (impl_QuotasValid (r2 ++ [((-1 : Int), (5 : Int), (6 : Int), ())])).bind fun r9 =>
  bif (!r9) then
    (laws_alive).bind fun r10 =>
    k r10
  else
  k false
noncomputable def laws_FnQuotasValid (code1 : (List Int)) : Option (Bool) :=
  laws_FnQuotasValidK code1 some
theorem laws_FnQuotasValid_eq {γ : Type} (code1 : (List Int)) (k : Bool → Option γ) : laws_FnQuotasValidK code1 k = (laws_FnQuotasValid code1).bind k := by
  simp only [laws_FnQuotasValidK, laws_FnQuotasValid, cond_bind', chk_bind', nnK_bind', getK_bind', getBK_bind', endK_bind', bind_bind', some_bind', none_bind', sum3K_1, sum3K_2, sum3K_3, sum2K_1, sum2K_2]

/-! loop.example/capkernel/spec.FreeQuota -/
noncomputable def spec_FreeQuota_l2K {γ : Type} (n18 : Int) (amount19 : Int) (b20 : (List DQuota)) (kn : Int × Int × (List DQuota) × Unit → Option γ) (kx : (List DQuota) × Unit → Option γ) : Option γ :=
  bif decide (n18 ≥ (0 : Int)) then
    nnK n18 fun i21 =>
    chk (i21 < b20.length) <|
    getK b20 i21 fun v22 =>
    nnK n18 fun i23 =>
    chk (i23 < b20.length) <|
    getK b20 i23 fun y24 =>
    nnK n18 fun i25 =>
    chk (i25 < (b20.set i23 (y24.1, y24.2.1, (IntKind.wrap .i64 (v22.2.2.1 - amount19)), ())).length) <|
    getK (b20.set i23 (y24.1, y24.2.1, (IntKind.wrap .i64 (v22.2.2.1 - amount19)), ())) i25 fun v26 =>
    kn (v26.1, amount19, (b20.set i23 (y24.1, y24.2.1, (IntKind.wrap .i64 (v22.2.2.1 - amount19)), ())), ())
  else
  kx (b20, ())
noncomputable def spec_FreeQuota_l2 (x : Int × Int × (List DQuota) × Unit) : Option ((Int × Int × (List DQuota) × Unit) ⊕ ((List DQuota) × Unit)) :=
  spec_FreeQuota_l2K x.1 x.2.1 x.2.2.1 (fun y => some (.inl y)) (fun a => some (.inr a))
theorem spec_FreeQuota_l2_eq {γ : Type} (n18 : Int) (amount19 : Int) (b20 : (List DQuota)) (kn : Int × Int × (List DQuota) × Unit → Option γ) (kx : (List DQuota) × Unit → Option γ) : spec_FreeQuota_l2K n18 amount19 b20 kn kx = (spec_FreeQuota_l2 (n18, amount19, b20, ())).bind fun r => sum2K r kn kx := by
  simp only [spec_FreeQuota_l2K, spec_FreeQuota_l2, cond_bind', chk_bind', nnK_bind', getK_bind', getBK_bind', endK_bind', bind_bind', some_bind', none_bind', sum3K_1, sum3K_2, sum3K_3, sum2K_1, sum2K_2]
noncomputable def spec_FreeQuota_l0K {γ : Type} (list7 : (List DQuota)) (n8 : Int) (amount9 : Int) (rest10 : Int) (kq11 : Int) (b12 : (List DQuota)) (kn : (List DQuota) × Int × Int × Int × Int × (List DQuota) × Unit → Option γ) (kx : Int × Int × Int × (List DQuota) × Unit → Option γ) : Option γ :=
  bif decide (kq11 < (list7.length : Int)) then
    nnK kq11 fun i13 =>
    getK list7 i13 fun v14 =>
    bif (v14.1 == n8) then
      nnK kq11 fun i15 =>
      getK list7 i15 fun v16 =>
      kn (list7, n8, amount9, (IntKind.wrap .i64 (rest10 - v16.2.2.1)), (IntKind.wrap .i64 (kq11 + (1 : Int))), b12, ())
    else
    kn (list7, n8, amount9, rest10, (IntKind.wrap .i64 (kq11 + (1 : Int))), b12, ())
  else
  kx (n8, amount9, rest10, b12, ())
noncomputable def spec_FreeQuota_l0 (x : (List DQuota) × Int × Int × Int × Int × (List DQuota) × Unit) : Option (((List DQuota) × Int × Int × Int × Int × (List DQuota) × Unit) ⊕ (Int × Int × Int × (List DQuota) × Unit)) :=
  spec_FreeQuota_l0K x.1 x.2.1 x.2.2.1 x.2.2.2.1 x.2.2.2.2.1 x.2.2.2.2.2.1 (fun y => some (.inl y)) (fun a => some (.inr a))
theorem spec_FreeQuota_l0_eq {γ : Type} (list7 : (List DQuota)) (n8 : Int) (amount9 : Int) (rest10 : Int) (kq11 : Int) (b12 : (List DQuota)) (kn : (List DQuota) × Int × Int × Int × Int × (List DQuota) × Unit → Option γ) (kx : Int × Int × Int × (List DQuota) × Unit → Option γ) : spec_FreeQuota_l0K list7 n8 amount9 rest10 kq11 b12 kn kx = (spec_FreeQuota_l0 (list7, n8, amount9, rest10, kq11, b12, ())).bind fun r => sum2K r kn kx := by
  simp only [spec_FreeQuota_l0K, spec_FreeQuota_l0, cond_bind', chk_bind', nnK_bind', getK_bind', getBK_bind', endK_bind', bind_bind', some_bind', none_bind', sum3K_1, sum3K_2, sum3K_3, sum2K_1, sum2K_2]
noncomputable def spec_FreeQuotaK {γ : Type} (list1 : (List DQuota)) (n2 : Int) (amount3 : Int) (k : Bool × (List DQuota) → Option γ) : Option γ :=
  (spec_QuotaRoom list1 n2).bind fun r4 =>
  bif (!decide (r4 < (0 : Int))) then
    bif decide (amount3 < (0 : Int)) then
      k (false, [])
    else
    chk (list1.length ≤ bigRow) <|
    nnK n2 fun i5 =>
    getK list1 i5 fun v6 =>
    (loopF spec_FreeQuota_l0 (list1, n2, amount3, v6.2.2.1, (0 : Int), list1, ())).bind fun z17 =>
    bif decide (z17.2.1 > z17.2.2.1) then
      k (false, z17.2.2.2.1)
    else
    (loopF spec_FreeQuota_l2 (z17.1, z17.2.1, z17.2.2.2.1, ())).bind fun z27 =>
    k (true, z27.1)
  else
  k (false, [])
noncomputable def spec_FreeQuota (list1 : (List DQuota)) (n2 : Int) (amount3 : Int) : Option (Bool × (List DQuota)) :=
  spec_FreeQuotaK list1 n2 amount3 some
theorem spec_FreeQuota_eq {γ : Type} (list1 : (List DQuota)) (n2 : Int) (amount3 : Int) (k : Bool × (List DQuota) → Option γ) : spec_FreeQuotaK list1 n2 amount3 k = (spec_FreeQuota list1 n2 amount3).bind k := by
  simp only [spec_FreeQuotaK, spec_FreeQuota, cond_bind', chk_bind', nnK_bind', getK_bind', getBK_bind', endK_bind', bind_bind', some_bind', none_bind', sum3K_1, sum3K_2, sum3K_3, sum2K_1, sum2K_2]

/-! slices.Clone(()loop.example/capkernel/impl.Quota,loop.example/capkernel/impl.Quota) -/
noncomputable def slices_Clone_QuotaR {γ : Type} (sq1 : (List DQuota)) (k : (List DQuota) → Option γ) : Option γ :=
  bif sq1.isEmpty then both
    (k [])
    (chk (sq1.length ≤ bigRow) <|
    k sq1)
  else
  chk (sq1.length ≤ bigRow) <|
  k sq1
noncomputable def slices_Clone_QuotaK {γ : Type} (sq1 : (List DQuota)) (k : (List DQuota) → Option γ) : Option γ :=
  chk (sq1.length ≤ bigRow) (k sq1)
theorem slices_Clone_Quota_raw {γ : Type} (sq1 : (List DQuota)) (k : (List DQuota) → Option γ) : slices_Clone_QuotaR sq1 k = slices_Clone_QuotaK sq1 k := by
  cases sq1 with
  | nil => simp [slices_Clone_QuotaR, slices_Clone_QuotaK, both, chk, bigRow]
  | cons a r => simp [slices_Clone_QuotaR, slices_Clone_QuotaK, chk]
noncomputable def slices_Clone_Quota (sq1 : (List DQuota)) : Option ((List DQuota)) :=
  slices_Clone_QuotaK sq1 some
theorem slices_Clone_Quota_eq {γ : Type} (sq1 : (List DQuota)) (k : (List DQuota) → Option γ) : slices_Clone_QuotaK sq1 k = (slices_Clone_Quota sq1).bind k := by
  simp only [slices_Clone_QuotaK, slices_Clone_Quota, cond_bind', chk_bind', nnK_bind', getK_bind', getBK_bind', endK_bind', bind_bind', some_bind', none_bind', sum3K_1, sum3K_2, sum3K_3, sum2K_1, sum2K_2]

/-! slices.Clip(()loop.example/capkernel/impl.Quota,loop.example/capkernel/impl.Quota) -/
noncomputable def slices_Clip_QuotaK {γ : Type} (b1 : (List DQuota)) (k : (List DQuota) → Option γ) : Option γ :=
  chk (0 ≤ b1.length ∧ b1.length ≤ b1.length ∧ b1.length ≤ b1.length) <|
  chk (0 = 0 ∧ b1.length = b1.length) <|
  k b1
noncomputable def slices_Clip_Quota (b1 : (List DQuota)) : Option ((List DQuota)) :=
  slices_Clip_QuotaK b1 some
theorem slices_Clip_Quota_eq {γ : Type} (b1 : (List DQuota)) (k : (List DQuota) → Option γ) : slices_Clip_QuotaK b1 k = (slices_Clip_Quota b1).bind k := by
  simp only [slices_Clip_QuotaK, slices_Clip_Quota, cond_bind', chk_bind', nnK_bind', getK_bind', getBK_bind', endK_bind', bind_bind', some_bind', none_bind', sum3K_1, sum3K_2, sum3K_3, sum2K_1, sum2K_2]

/-! loop.example/capkernel/impl.clone(loop.example/capkernel/impl.Quota) -/
noncomputable def impl_clone_QuotaK {γ : Type} (list1 : (List DQuota)) (k : (List DQuota) → Option γ) : Option γ :=
  (slices_Clone_Quota list1).bind fun r2 =>
  (slices_Clip_Quota r2).bind fun r3 =>
  k r3
noncomputable def impl_clone_Quota (list1 : (List DQuota)) : Option ((List DQuota)) :=
  impl_clone_QuotaK list1 some
theorem impl_clone_Quota_eq {γ : Type} (list1 : (List DQuota)) (k : (List DQuota) → Option γ) : impl_clone_QuotaK list1 k = (impl_clone_Quota list1).bind k := by
  simp only [impl_clone_QuotaK, impl_clone_Quota, cond_bind', chk_bind', nnK_bind', getK_bind', getBK_bind', endK_bind', bind_bind', some_bind', none_bind', sum3K_1, sum3K_2, sum3K_3, sum2K_1, sum2K_2]

/-! loop.example/capkernel/impl.added -/
noncomputable def impl_added_l0K {γ : Type} (n5 : Int) (amount6 : Int) (b7 : (List DQuota)) (kn : Int × Int × (List DQuota) × Unit → Option γ) (kx : (List DQuota) × Unit → Option γ) : Option γ :=
  bif decide (n5 ≥ (0 : Int)) then
    nnK n5 fun i8 =>
    chk (i8 < b7.length) <|
    getK b7 i8 fun v9 =>
    nnK n5 fun i10 =>
    chk (i10 < b7.length) <|
    getK b7 i10 fun y11 =>
    nnK n5 fun i12 =>
    chk (i12 < (b7.set i10 (y11.1, y11.2.1, (IntKind.wrap .i64 (v9.2.2.1 + amount6)), ())).length) <|
    getK (b7.set i10 (y11.1, y11.2.1, (IntKind.wrap .i64 (v9.2.2.1 + amount6)), ())) i12 fun v13 =>
    kn (v13.1, amount6, (b7.set i10 (y11.1, y11.2.1, (IntKind.wrap .i64 (v9.2.2.1 + amount6)), ())), ())
  else
  kx (b7, ())
noncomputable def impl_added_l0 (x : Int × Int × (List DQuota) × Unit) : Option ((Int × Int × (List DQuota) × Unit) ⊕ ((List DQuota) × Unit)) :=
  impl_added_l0K x.1 x.2.1 x.2.2.1 (fun y => some (.inl y)) (fun a => some (.inr a))
theorem impl_added_l0_eq {γ : Type} (n5 : Int) (amount6 : Int) (b7 : (List DQuota)) (kn : Int × Int × (List DQuota) × Unit → Option γ) (kx : (List DQuota) × Unit → Option γ) : impl_added_l0K n5 amount6 b7 kn kx = (impl_added_l0 (n5, amount6, b7, ())).bind fun r => sum2K r kn kx := by
  simp only [impl_added_l0K, impl_added_l0, cond_bind', chk_bind', nnK_bind', getK_bind', getBK_bind', endK_bind', bind_bind', some_bind', none_bind', sum3K_1, sum3K_2, sum3K_3, sum2K_1, sum2K_2]
noncomputable def impl_addedK {γ : Type} (list1 : (List DQuota)) (n2 : Int) (amount3 : Int) (k : (List DQuota) → Option γ) : Option γ :=
  (impl_clone_Quota list1).bind fun r4 =>
  (loopF impl_added_l0 (n2, amount3, r4, ())).bind fun z14 =>
  k z14.1
noncomputable def impl_added (list1 : (List DQuota)) (n2 : Int) (amount3 : Int) : Option ((List DQuota)) :=
  impl_addedK list1 n2 amount3 some
theorem impl_added_eq {γ : Type} (list1 : (List DQuota)) (n2 : Int) (amount3 : Int) (k : (List DQuota) → Option γ) : impl_addedK list1 n2 amount3 k = (impl_added list1 n2 amount3).bind k := by
  simp only [impl_addedK, impl_added, cond_bind', chk_bind', nnK_bind', getK_bind', getBK_bind', endK_bind', bind_bind', some_bind', none_bind', sum3K_1, sum3K_2, sum3K_3, sum2K_1, sum2K_2]

/-! loop.example/capkernel/impl.FreeQuota -/
noncomputable def impl_FreeQuotaK {γ : Type} (list1 : (List DQuota)) (n2 : Int) (amount3 : Int) (k : Bool × (List DQuota) → Option γ) : Option γ :=
  (impl_quoted list1 n2).bind fun r4 =>
  bif (!(!r4)) then
    bif decide (amount3 < (0 : Int)) then
      k (false, [])
    else
    nnK n2 fun i5 =>
    getK list1 i5 fun v6 =>
    (impl_parts list1 n2).bind fun r7 =>
    bif decide ((IntKind.wrap .i64 (v6.2.2.1 - amount3)) < r7) then
      (impl_clone_Quota list1).bind fun r8 =>
      k (false, r8)
    else
    (impl_added list1 n2 (IntKind.wrap .i64 (0 - amount3))).bind fun r9 =>
    k (true, r9)
  else
  k (false, [])
noncomputable def impl_FreeQuota (list1 : (List DQuota)) (n2 : Int) (amount3 : Int) : Option (Bool × (List DQuota)) :=
  impl_FreeQuotaK list1 n2 amount3 some
theorem impl_FreeQuota_eq {γ : Type} (list1 : (List DQuota)) (n2 : Int) (amount3 : Int) (k : Bool × (List DQuota) → Option γ) : impl_FreeQuotaK list1 n2 amount3 k = (impl_FreeQuota list1 n2 amount3).bind k := by
  simp only [impl_FreeQuotaK, impl_FreeQuota, cond_bind', chk_bind', nnK_bind', getK_bind', getBK_bind', endK_bind', bind_bind', some_bind', none_bind', sum3K_1, sum3K_2, sum3K_3, sum2K_1, sum2K_2]

/-! loop.example/capkernel/laws.markQuotaS -/
noncomputable def laws_markQuotaS_l0K {γ : Type} (kq3 : Int) (i4 : Int) (b5 : (List DQuota)) (kn : Int × Int × (List DQuota) × Unit → Option γ) (kx : Int × (List DQuota) × Unit → Option γ) : Option γ :=
  bif decide (i4 < (b5.length : Int)) then
    nnK i4 fun i6 =>
    chk (i6 < b5.length) <|
    getK b5 i6 fun y7 =>
    nnK i4 fun i8 =>
    chk (i8 < (b5.set i6 (kq3, y7.2.1, y7.2.2.1, ())).length) <|
    getK (b5.set i6 (kq3, y7.2.1, y7.2.2.1, ())) i8 fun y9 =>
    nnK i4 fun i10 =>
    chk (i10 < ((b5.set i6 (kq3, y7.2.1, y7.2.2.1, ())).set i8 (y9.1, (IntKind.wrap .i64 (kq3 + (1 : Int))), y9.2.2.1, ())).length) <|
    getK ((b5.set i6 (kq3, y7.2.1, y7.2.2.1, ())).set i8 (y9.1, (IntKind.wrap .i64 (kq3 + (1 : Int))), y9.2.2.1, ())) i10 fun y11 =>
    kn ((IntKind.wrap .i64 ((IntKind.wrap .i64 ((IntKind.wrap .i64 (kq3 + (1 : Int))) + (1 : Int))) + (1 : Int))), (IntKind.wrap .i64 (i4 + (1 : Int))), (((b5.set i6 (kq3, y7.2.1, y7.2.2.1, ())).set i8 (y9.1, (IntKind.wrap .i64 (kq3 + (1 : Int))), y9.2.2.1, ())).set i10 (y11.1, y11.2.1, (IntKind.wrap .i64 ((IntKind.wrap .i64 (kq3 + (1 : Int))) + (1 : Int))), ())), ())
  else
  kx (kq3, b5, ())
noncomputable def laws_markQuotaS_l0 (x : Int × Int × (List DQuota) × Unit) : Option ((Int × Int × (List DQuota) × Unit) ⊕ (Int × (List DQuota) × Unit)) :=
  laws_markQuotaS_l0K x.1 x.2.1 x.2.2.1 (fun y => some (.inl y)) (fun a => some (.inr a))
theorem laws_markQuotaS_l0_eq {γ : Type} (kq3 : Int) (i4 : Int) (b5 : (List DQuota)) (kn : Int × Int × (List DQuota) × Unit → Option γ) (kx : Int × (List DQuota) × Unit → Option γ) : laws_markQuotaS_l0K kq3 i4 b5 kn kx = (laws_markQuotaS_l0 (kq3, i4, b5, ())).bind fun r => sum2K r kn kx := by
  simp only [laws_markQuotaS_l0K, laws_markQuotaS_l0, cond_bind', chk_bind', nnK_bind', getK_bind', getBK_bind', endK_bind', bind_bind', some_bind', none_bind', sum3K_1, sum3K_2, sum3K_3, sum2K_1, sum2K_2]
noncomputable def laws_markQuotaSK {γ : Type} (kq1 : Int) (b2 : (List DQuota)) (k : Int × (List DQuota) → Option γ) : Option γ :=
  (loopF laws_markQuotaS_l0 (kq1, (0 : Int), b2, ())).bind fun z12 =>
  k (z12.1, z12.2.1)
noncomputable def laws_markQuotaS (kq1 : Int) (b2 : (List DQuota)) : Option (Int × (List DQuota)) :=
  laws_markQuotaSK kq1 b2 some
theorem laws_markQuotaS_eq {γ : Type} (kq1 : Int) (b2 : (List DQuota)) (k : Int × (List DQuota) → Option γ) : laws_markQuotaSK kq1 b2 k = (laws_markQuotaS kq1 b2).bind k := by
  simp only [laws_markQuotaSK, laws_markQuotaS, cond_bind', chk_bind', nnK_bind', getK_bind', getBK_bind', endK_bind', bind_bind', some_bind', none_bind', sum3K_1, sum3K_2, sum3K_3, sum2K_1, sum2K_2]

/-! loop.example/capkernel/laws.heldQuotaS -/
noncomputable def laws_heldQuotaS_l0K {γ : Type} (a3 : (List DQuota)) (kq4 : Int) (i5 : Int) (kn : (List DQuota) × Int × Int × Unit → Option γ) (kx : Int × Unit → Option γ) (kr : Int × Unit → Option γ) : Option γ :=
  bif decide (i5 < (a3.length : Int)) then
    nnK i5 fun i6 =>
    getK a3 i6 fun v7 =>
    bif (v7.1 != kq4) then
      kr ((-1 : Int), ())
    else
    nnK i5 fun i8 =>
    getK a3 i8 fun v9 =>
    bif (v9.2.1 != (IntKind.wrap .i64 (kq4 + (1 : Int)))) then
      kr ((-1 : Int), ())
    else
    nnK i5 fun i10 =>
    getK a3 i10 fun v11 =>
    bif (v11.2.2.1 != (IntKind.wrap .i64 ((IntKind.wrap .i64 (kq4 + (1 : Int))) + (1 : Int)))) then
      kr ((-1 : Int), ())
    else
    kn (a3, (IntKind.wrap .i64 ((IntKind.wrap .i64 ((IntKind.wrap .i64 (kq4 + (1 : Int))) + (1 : Int))) + (1 : Int))), (IntKind.wrap .i64 (i5 + (1 : Int))), ())
  else
  kx (kq4, ())
noncomputable def laws_heldQuotaS_l0 (x : (List DQuota) × Int × Int × Unit) : Option (((List DQuota) × Int × Int × Unit) ⊕ ((Int × Unit) ⊕ (Int × Unit))) :=
  laws_heldQuotaS_l0K x.1 x.2.1 x.2.2.1 (fun y => some (.inl y)) (fun a => some (.inr (.inl a))) (fun b => some (.inr (.inr b)))
theorem laws_heldQuotaS_l0_eq {γ : Type} (a3 : (List DQuota)) (kq4 : Int) (i5 : Int) (kn : (List DQuota) × Int × Int × Unit → Option γ) (kx : Int × Unit → Option γ) (kr : Int × Unit → Option γ) : laws_heldQuotaS_l0K a3 kq4 i5 kn kx kr = (laws_heldQuotaS_l0 (a3, kq4, i5, ())).bind fun r => sum3K r kn kx kr := by
  simp only [laws_heldQuotaS_l0K, laws_heldQuotaS_l0, cond_bind', chk_bind', nnK_bind', getK_bind', getBK_bind', endK_bind', bind_bind', some_bind', none_bind', sum3K_1, sum3K_2, sum3K_3, sum2K_1, sum2K_2]
noncomputable def laws_heldQuotaSK {γ : Type} (a1 : (List DQuota)) (kq2 : Int) (k : Int → Option γ) : Option γ :=
  (loopF laws_heldQuotaS_l0 (a1, kq2, (0 : Int), ())).bind fun q => endK q (fun z12 =>
    k z12.1) (fun z13 =>
    k z13.1)
noncomputable def laws_heldQuotaS (a1 : (List DQuota)) (kq2 : Int) : Option (Int) :=
  laws_heldQuotaSK a1 kq2 some
theorem laws_heldQuotaS_eq {γ : Type} (a1 : (List DQuota)) (kq2 : Int) (k : Int → Option γ) : laws_heldQuotaSK a1 kq2 k = (laws_heldQuotaS a1 kq2).bind k := by
  simp only [laws_heldQuotaSK, laws_heldQuotaS, cond_bind', chk_bind', nnK_bind', getK_bind', getBK_bind', endK_bind', bind_bind', some_bind', none_bind', sum3K_1, sum3K_2, sum3K_3, sum2K_1, sum2K_2]

/-! loop.example/capkernel/laws.FnExactFreeQuota -/
noncomputable def laws_FnExactFreeQuotaK {γ : Type} (aList1 : (List DQuota)) (aN2 : Int) (aAmount3 : Int) (k : Bool → Option γ) : Option γ :=
  (laws_szQuotaS aList1 (1048576 : Int)).bind fun r4 =>
  bif decide (r4 < (0 : Int)) then
    k true
  else
  (laws_toQuotaS aList1).bind fun r5 =>
  (spec_FreeQuota r5 aN2 aAmount3).bind fun r6 =>
  (laws_toQuotaS aList1).bind fun r7 =>
  (impl_FreeQuota r7 aN2 aAmount3).bind fun r8 =>
  (laws_eqQuotaS r8.2 r6.2).bind fun r9 =>
  bif (!(!r9)) then
    bif (!(r8.1 == r6.1)) then
      k false
    else
    (laws_toQuotaS aList1).bind fun r10 =>
    (laws_eqQuotaS r7 r10).bind fun r11 =>
    bif (!r11) then
      k false
    else
    (laws_markQuotaS (1 : Int) r7).bind fun r12 =>
    bif (!decide (r12.1 < (0 : Int))) then
      (laws_eqQuotaS r8.2 r6.2).bind fun r13 =>
      bif (!(!r13)) then
        bif (!(r8.1 == r6.1)) then
          k false
        else
        (laws_markQuotaS (1 : Int) r8.2).bind fun r14 =>
        (laws_heldQuotaS r14.2 (1 : Int)).bind fun r15 =>
        bif decide (r15 < (0 : Int)) then
          k false
        else
        bif (r15 != r14.1) then
          k false
        else
        (laws_toQuotaS aList1).bind fun r16 =>
        (impl_FreeQuota r16 aN2 aAmount3).bind fun r17 =>
        (laws_eqQuotaS r17.2 r6.2).bind fun r18 =>
        bif (!(!r18)) then
          bif (!(r17.1 == r6.1)) then
            k false
          else
          (laws_heldQuotaS r14.2 (1 : Int)).bind fun r19 =>
          bif decide (r19 < (0 : Int)) then
            k false
          else
          bif (r19 != r14.1) then
            k false
          else
          k true
        else
        k false
      else
      k false
    else
    k false
  else
  k false
noncomputable def laws_FnExactFreeQuota (aList1 : (List DQuota)) (aN2 : Int) (aAmount3 : Int) : Option (Bool) :=
  laws_FnExactFreeQuotaK aList1 aN2 aAmount3 some
theorem laws_FnExactFreeQuota_eq {γ : Type} (aList1 : (List DQuota)) (aN2 : Int) (aAmount3 : Int) (k : Bool → Option γ) : laws_FnExactFreeQuotaK aList1 aN2 aAmount3 k = (laws_FnExactFreeQuota aList1 aN2 aAmount3).bind k := by
  simp only [laws_FnExactFreeQuotaK, laws_FnExactFreeQuota, cond_bind', chk_bind', nnK_bind', getK_bind', getBK_bind', endK_bind', bind_bind', some_bind', none_bind', sum3K_1, sum3K_2, sum3K_3, sum2K_1, sum2K_2]

/-! loop.example/capkernel/impl.UseQuota -/
noncomputable def impl_UseQuotaK {γ : Type} (list1 : (List DQuota)) (n2 : Int) (amount3 : Int) (k : Bool × (List DQuota) → Option γ) : Option γ :=
  (impl_quoted list1 n2).bind fun r4 =>
  bif (!(!r4)) then
    bif decide (amount3 < (0 : Int)) then
      k (false, [])
    else
    (impl_QuotaRoom list1 n2).bind fun r5 =>
    bif decide (amount3 > r5) then
      (impl_clone_Quota list1).bind fun r6 =>
      k (false, r6)
    else
    (impl_added list1 n2 amount3).bind fun r7 =>
    k (true, r7)
  else
  k (false, [])
noncomputable def impl_UseQuota (list1 : (List DQuota)) (n2 : Int) (amount3 : Int) : Option (Bool × (List DQuota)) :=
  impl_UseQuotaK list1 n2 amount3 some
theorem impl_UseQuota_eq {γ : Type} (list1 : (List DQuota)) (n2 : Int) (amount3 : Int) (k : Bool × (List DQuota) → Option γ) : impl_UseQuotaK list1 n2 amount3 k = (impl_UseQuota list1 n2 amount3).bind k := by
  simp only [impl_UseQuotaK, impl_UseQuota, cond_bind', chk_bind', nnK_bind', getK_bind', getBK_bind', endK_bind', bind_bind', some_bind', none_bind', sum3K_1, sum3K_2, sum3K_3, sum2K_1, sum2K_2]

/-! loop.example/capkernel/laws.FnExactUseQuota -/
noncomputable def laws_FnExactUseQuotaK {γ : Type} (aList1 : (List DQuota)) (aN2 : Int) (aAmount3 : Int) (k : Bool → Option γ) : Option γ :=
  (laws_szQuotaS aList1 (1048576 : Int)).bind fun r4 =>
  bif decide (r4 < (0 : Int)) then
    k true
  else
  (laws_toQuotaS aList1).bind fun r5 =>
  (spec_UseQuota r5 aN2 aAmount3).bind fun r6 =>
  (laws_toQuotaS aList1).bind fun r7 =>
  (impl_UseQuota r7 aN2 aAmount3).bind fun r8 =>
  (laws_eqQuotaS r8.2 r6.2).bind fun r9 =>
  bif (!(!r9)) then
    bif (!(r8.1 == r6.1)) then
      k false
    else
    (laws_toQuotaS aList1).bind fun r10 =>
    (laws_eqQuotaS r7 r10).bind fun r11 =>
    bif (!r11) then
      k false
    else
    (laws_markQuotaS (1 : Int) r7).bind fun r12 =>
    bif (!decide (r12.1 < (0 : Int))) then
      (laws_eqQuotaS r8.2 r6.2).bind fun r13 =>
      bif (!(!r13)) then
        bif (!(r8.1 == r6.1)) then
          k false
        else
        (laws_markQuotaS (1 : Int) r8.2).bind fun r14 =>
        (laws_heldQuotaS r14.2 (1 : Int)).bind fun r15 =>
        bif decide (r15 < (0 : Int)) then
          k false
        else
        bif (r15 != r14.1) then
          k false
        else
        (laws_toQuotaS aList1).bind fun r16 =>
        (impl_UseQuota r16 aN2 aAmount3).bind fun r17 =>
        (laws_eqQuotaS r17.2 r6.2).bind fun r18 =>
        bif (!(!r18)) then
          bif (!(r17.1 == r6.1)) then
            k false
          else
          (laws_heldQuotaS r14.2 (1 : Int)).bind fun r19 =>
          bif decide (r19 < (0 : Int)) then
            k false
          else
          bif (r19 != r14.1) then
            k false
          else
          k true
        else
        k false
      else
      k false
    else
    k false
  else
  k false
noncomputable def laws_FnExactUseQuota (aList1 : (List DQuota)) (aN2 : Int) (aAmount3 : Int) : Option (Bool) :=
  laws_FnExactUseQuotaK aList1 aN2 aAmount3 some
theorem laws_FnExactUseQuota_eq {γ : Type} (aList1 : (List DQuota)) (aN2 : Int) (aAmount3 : Int) (k : Bool → Option γ) : laws_FnExactUseQuotaK aList1 aN2 aAmount3 k = (laws_FnExactUseQuota aList1 aN2 aAmount3).bind k := by
  simp only [laws_FnExactUseQuotaK, laws_FnExactUseQuota, cond_bind', chk_bind', nnK_bind', getK_bind', getBK_bind', endK_bind', bind_bind', some_bind', none_bind', sum3K_1, sum3K_2, sum3K_3, sum2K_1, sum2K_2]

/-! loop.example/capkernel/spec.DrawQuotaRoom -/
noncomputable def spec_DrawQuotaRoomK {γ : Type} (code1 : (List Int)) (k : Int × (List DQuota) → Option γ) : Option γ :=
  (spec_l20Open code1).bind fun r2 =>
  (spec_l20Quotas (12 : Int) r2).bind fun r3 =>
  (spec_l20Rd_pick (IntKind.wrap .i64 ((r3.2.length : Int) + (1 : Int))) r3.1).bind fun r4 =>
  (spec_l20Rd_pick (14 : Int) r4.2).bind fun r5 =>
  k ((IntKind.wrap .i64 (r4.1 - (IntKind.wrap .i64 (Int.tdiv r5.1 (13 : Int))))), r3.2)
noncomputable def spec_DrawQuotaRoom (code1 : (List Int)) : Option (Int × (List DQuota)) :=
  spec_DrawQuotaRoomK code1 some
theorem spec_DrawQuotaRoom_eq {γ : Type} (code1 : (List Int)) (k : Int × (List DQuota) → Option γ) : spec_DrawQuotaRoomK code1 k = (spec_DrawQuotaRoom code1).bind k := by
  simp only [spec_DrawQuotaRoomK, spec_DrawQuotaRoom, cond_bind', chk_bind', nnK_bind', getK_bind', getBK_bind', endK_bind', bind_bind', some_bind', none_bind', sum3K_1, sum3K_2, sum3K_3, sum2K_1, sum2K_2]

/-! loop.example/capkernel/laws.FnQuotaRoom -/
noncomputable def laws_FnQuotaRoomK {γ : Type} (code1 : (List Int)) (k : Bool → Option γ) : Option γ :=
  bif decide ((code1.length : Int) > (1048576 : Int)) then
    k true
  else
  (spec_DrawQuotaRoom code1).bind fun r2 =>
  (impl_QuotaRoom r2.2 r2.1).bind fun r3 =>
  (spec_QuotaRoom r2.2 r2.1).bind fun r4 =>
  bif (r3 != r4) then
    k false
  else
  bif decide (r3 < (0 : Int)) then
    bif (r3 == (-1 : Int)) then
      (laws_alive).bind fun r5 =>
      k r5
    else
    k false
  else
  (impl_UseQuota r2.2 r2.1 r3).bind fun r6 =>
  (impl_UseQuota r2.2 r2.1 (IntKind.wrap .i64 (r3 + (1 : Int)))).bind fun r7 =>
  nnK r2.1 fun i8 =>
  getK r2.2 i8 fun v9 =>
  nnK r2.1 fun i10 =>
  getK r2.2 i10 fun v11 =>
  bif decide (r3 ≤ (IntKind.wrap .i64 (v9.2.1 - v11.2.2.1))) then
    nnK r2.1 fun i12 =>
    getK r2.2 i12 fun v13 =>
    bif (!decide (v13.1 < (0 : Int))) then
      nnK r2.1 fun i14 =>
      getK r2.2 i14 fun v15 =>
      (impl_QuotaRoom r2.2 v15.1).bind fun r16 =>
      bif decide (r3 ≤ r16) then
        bif r6.1 then
          k (!r7.1)
        else
        k false
      else
      k false
    else
    bif r6.1 then
      k (!r7.1)
    else
    k false
  else
  k false
noncomputable def laws_FnQuotaRoom (code1 : (List Int)) : Option (Bool) :=
  laws_FnQuotaRoomK code1 some
theorem laws_FnQuotaRoom_eq {γ : Type} (code1 : (List Int)) (k : Bool → Option γ) : laws_FnQuotaRoomK code1 k = (laws_FnQuotaRoom code1).bind k := by
  simp only [laws_FnQuotaRoomK, laws_FnQuotaRoom, cond_bind', chk_bind', nnK_bind', getK_bind', getBK_bind', endK_bind', bind_bind', some_bind', none_bind', sum3K_1, sum3K_2, sum3K_3, sum2K_1, sum2K_2]

/-! loop.example/capkernel/spec.DrawUseQuota -/
noncomputable def spec_DrawUseQuotaK {γ : Type} (code1 : (List Int)) (k : Int × Int × (List DQuota) → Option γ) : Option γ :=
  (spec_l20Open code1).bind fun r2 =>
  (spec_l20Quotas (14 : Int) r2).bind fun r3 =>
  (spec_l20Rd_pick (IntKind.wrap .i64 ((r3.2.length : Int) + (1 : Int))) r3.1).bind fun r4 =>
  (spec_l20Rd_pick (14 : Int) r4.2).bind fun r5 =>
  (spec_l20Rd_pick (60 : Int) r5.2).bind fun r6 =>
  (spec_QuotaRoom r3.2 (IntKind.wrap .i64 (r4.1 - (IntKind.wrap .i64 (Int.tdiv r5.1 (13 : Int)))))).bind fun r7 =>
  (spec_l20Rd_pick (7 : Int) r6.2).bind fun r8 =>
  nnK r8.1 fun i9 =>
  getK [(0 : Int), (0 : Int), (0 : Int), (1 : Int), (1 : Int), (2 : Int), (3 : Int)] i9 fun v10 =>
  nnK v10 fun i11 =>
  getK [r6.1, (if r7 > (0 : Int) then r7 else (0 : Int)), (-1 : Int), (9223372036854775807 : Int)] i11 fun v12 =>
  k ((IntKind.wrap .i64 (r4.1 - (IntKind.wrap .i64 (Int.tdiv r5.1 (13 : Int))))), v12, r3.2)
noncomputable def spec_DrawUseQuota (code1 : (List Int)) : Option (Int × Int × (List DQuota)) :=
  spec_DrawUseQuotaK code1 some
theorem spec_DrawUseQuota_eq {γ : Type} (code1 : (List Int)) (k : Int × Int × (List DQuota) → Option γ) : spec_DrawUseQuotaK code1 k = (spec_DrawUseQuota code1).bind k := by
  simp only [spec_DrawUseQuotaK, spec_DrawUseQuota, cond_bind', chk_bind', nnK_bind', getK_bind', getBK_bind', endK_bind', bind_bind', some_bind', none_bind', sum3K_1, sum3K_2, sum3K_3, sum2K_1, sum2K_2]

/-! loop.example/capkernel/laws.sameQuotas -/
noncomputable def laws_sameQuotas_l0K {γ : Type} (a3 : (List DQuota)) (b4 : (List DQuota)) (kq5 : Int) (kn : (List DQuota) × (List DQuota) × Int × Unit → Option γ) (kx : Unit → Option γ) (kr : Bool × Unit → Option γ) : Option γ :=
  bif decide (kq5 < (a3.length : Int)) then
    nnK kq5 fun i6 =>
    getK a3 i6 fun v7 =>
    nnK kq5 fun i8 =>
    getK b4 i8 fun v9 =>
    bif (!(decide (v7.1 = v9.1) && (decide (v7.2.1 = v9.2.1) && (decide (v7.2.2.1 = v9.2.2.1) && true)))) then
      kr (false, ())
    else
    kn (a3, b4, (IntKind.wrap .i64 (kq5 + (1 : Int))), ())
  else
  kx ()
noncomputable def laws_sameQuotas_l0 (x : (List DQuota) × (List DQuota) × Int × Unit) : Option (((List DQuota) × (List DQuota) × Int × Unit) ⊕ ((Unit) ⊕ (Bool × Unit))) :=
  laws_sameQuotas_l0K x.1 x.2.1 x.2.2.1 (fun y => some (.inl y)) (fun a => some (.inr (.inl a))) (fun b => some (.inr (.inr b)))
theorem laws_sameQuotas_l0_eq {γ : Type} (a3 : (List DQuota)) (b4 : (List DQuota)) (kq5 : Int) (kn : (List DQuota) × (List DQuota) × Int × Unit → Option γ) (kx : Unit → Option γ) (kr : Bool × Unit → Option γ) : laws_sameQuotas_l0K a3 b4 kq5 kn kx kr = (laws_sameQuotas_l0 (a3, b4, kq5, ())).bind fun r => sum3K r kn kx kr := by
  simp only [laws_sameQuotas_l0K, laws_sameQuotas_l0, cond_bind', chk_bind', nnK_bind', getK_bind', getBK_bind', endK_bind', bind_bind', some_bind', none_bind', sum3K_1, sum3K_2, sum3K_3, sum2K_1, sum2K_2]
noncomputable def laws_sameQuotasK {γ : Type} (a1 : (List DQuota)) (b2 : (List DQuota)) (k : Bool → Option γ) : Option γ :=
  bif ((a1.length : Int) != (b2.length : Int)) then
    k false
  else
  (loopF laws_sameQuotas_l0 (a1, b2, (0 : Int), ())).bind fun q => endK q (fun z10 =>
    k true) (fun z11 =>
    k z11.1)
noncomputable def laws_sameQuotas (a1 : (List DQuota)) (b2 : (List DQuota)) : Option (Bool) :=
  laws_sameQuotasK a1 b2 some
theorem laws_sameQuotas_eq {γ : Type} (a1 : (List DQuota)) (b2 : (List DQuota)) (k : Bool → Option γ) : laws_sameQuotasK a1 b2 k = (laws_sameQuotas a1 b2).bind k := by
  simp only [laws_sameQuotasK, laws_sameQuotas, cond_bind', chk_bind', nnK_bind', getK_bind', getBK_bind', endK_bind', bind_bind', some_bind', none_bind', sum3K_1, sum3K_2, sum3K_3, sum2K_1, sum2K_2]

/-! loop.example/capkernel/laws.FnQuotaShrinks -/
noncomputable def laws_FnQuotaShrinksK {γ : Type} (code1 : (List Int)) (k : Bool → Option γ) : Option γ :=
  bif decide ((code1.length : Int) > (1048576 : Int)) then
    k true
  else
  (spec_DrawUseQuota code1).bind fun r2 =>
  (impl_UseQuota r2.2.2 r2.1 r2.2.1).bind fun r3 =>
  (spec_UseQuota r2.2.2 r2.1 r2.2.1).bind fun r4 =>
  (laws_sameQuotas r3.2 r4.2).bind fun r5 =>
  bif (!(!r5)) then
    bif (!(r3.1 == r4.1)) then
      k false
    else
    bif (!r3.1) then
      (laws_alive).bind fun r6 =>
      k r6
    else
    (impl_QuotaRoom r3.2 r2.1).bind fun r7 =>
    (impl_QuotaRoom r2.2.2 r2.1).bind fun r8 =>
    k (r7 == (IntKind.wrap .i64 (r8 - r2.2.1)))
  else
  k false
noncomputable def laws_FnQuotaShrinks (code1 : (List Int)) : Option (Bool) :=
  laws_FnQuotaShrinksK code1 some
theorem laws_FnQuotaShrinks_eq {γ : Type} (code1 : (List Int)) (k : Bool → Option γ) : laws_FnQuotaShrinksK code1 k = (laws_FnQuotaShrinks code1).bind k := by
  simp only [laws_FnQuotaShrinksK, laws_FnQuotaShrinks, cond_bind', chk_bind', nnK_bind', getK_bind', getBK_bind', endK_bind', bind_bind', some_bind', none_bind', sum3K_1, sum3K_2, sum3K_3, sum2K_1, sum2K_2]

/-! loop.example/capkernel/laws.FnUseQuota -/
noncomputable def laws_FnUseQuota_l2K {γ : Type} (list25 : (List DQuota)) (n26 : Int) (amount27 : Int) (x28 : (List DQuota)) (grown29 : Int) (above30 : Int) (kq31 : Int) (kn : (List DQuota) × Int × Int × (List DQuota) × Int × Int × Int × Unit → Option γ) (kx : (List DQuota) × Int × Int × (List DQuota) × Int × Int × Unit → Option γ) : Option γ :=
  bif decide (kq31 ≥ (0 : Int)) then
    nnK kq31 fun i32 =>
    getK list25 i32 fun v33 =>
    kn (list25, n26, amount27, x28, grown29, (IntKind.wrap .i64 (above30 + (1 : Int))), v33.1, ())
  else
  kx (list25, n26, amount27, x28, grown29, above30, ())
noncomputable def laws_FnUseQuota_l2 (x : (List DQuota) × Int × Int × (List DQuota) × Int × Int × Int × Unit) : Option (((List DQuota) × Int × Int × (List DQuota) × Int × Int × Int × Unit) ⊕ ((List DQuota) × Int × Int × (List DQuota) × Int × Int × Unit)) :=
  laws_FnUseQuota_l2K x.1 x.2.1 x.2.2.1 x.2.2.2.1 x.2.2.2.2.1 x.2.2.2.2.2.1 x.2.2.2.2.2.2.1 (fun y => some (.inl y)) (fun a => some (.inr a))
theorem laws_FnUseQuota_l2_eq {γ : Type} (list25 : (List DQuota)) (n26 : Int) (amount27 : Int) (x28 : (List DQuota)) (grown29 : Int) (above30 : Int) (kq31 : Int) (kn : (List DQuota) × Int × Int × (List DQuota) × Int × Int × Int × Unit → Option γ) (kx : (List DQuota) × Int × Int × (List DQuota) × Int × Int × Unit → Option γ) : laws_FnUseQuota_l2K list25 n26 amount27 x28 grown29 above30 kq31 kn kx = (laws_FnUseQuota_l2 (list25, n26, amount27, x28, grown29, above30, kq31, ())).bind fun r => sum2K r kn kx := by
  simp only [laws_FnUseQuota_l2K, laws_FnUseQuota_l2, cond_bind', chk_bind', nnK_bind', getK_bind', getBK_bind', endK_bind', bind_bind', some_bind', none_bind', sum3K_1, sum3K_2, sum3K_3, sum2K_1, sum2K_2]
noncomputable def laws_FnUseQuota_l0K {γ : Type} (list9 : (List DQuota)) (n10 : Int) (amount11 : Int) (x12 : (List DQuota)) (grown13 : Int) (kq14 : Int) (kn : (List DQuota) × Int × Int × (List DQuota) × Int × Int × Unit → Option γ) (kx : (List DQuota) × Int × Int × (List DQuota) × Int × Unit → Option γ) (kr : Bool × Unit → Option γ) : Option γ :=
  bif decide (kq14 < (list9.length : Int)) then
    nnK kq14 fun i15 =>
    getK x12 i15 fun v16 =>
    nnK kq14 fun i17 =>
    getK list9 i17 fun v18 =>
    bif (!(decide (v16.1 = v18.1) && (decide (v16.2.1 = v18.2.1) && (decide (v16.2.2.1 = v18.2.2.1) && true)))) then
      nnK kq14 fun i19 =>
      getK x12 i19 fun v20 =>
      nnK kq14 fun i21 =>
      getK list9 i21 fun v22 =>
      bif (v20.2.2.1 != (IntKind.wrap .i64 (v22.2.2.1 + amount11))) then
        kr (false, ())
      else
      kn (list9, n10, amount11, x12, (IntKind.wrap .i64 (grown13 + (1 : Int))), (IntKind.wrap .i64 (kq14 + (1 : Int))), ())
    else
    kn (list9, n10, amount11, x12, grown13, (IntKind.wrap .i64 (kq14 + (1 : Int))), ())
  else
  kx (list9, n10, amount11, x12, grown13, ())
noncomputable def laws_FnUseQuota_l0 (x : (List DQuota) × Int × Int × (List DQuota) × Int × Int × Unit) : Option (((List DQuota) × Int × Int × (List DQuota) × Int × Int × Unit) ⊕ (((List DQuota) × Int × Int × (List DQuota) × Int × Unit) ⊕ (Bool × Unit))) :=
  laws_FnUseQuota_l0K x.1 x.2.1 x.2.2.1 x.2.2.2.1 x.2.2.2.2.1 x.2.2.2.2.2.1 (fun y => some (.inl y)) (fun a => some (.inr (.inl a))) (fun b => some (.inr (.inr b)))
theorem laws_FnUseQuota_l0_eq {γ : Type} (list9 : (List DQuota)) (n10 : Int) (amount11 : Int) (x12 : (List DQuota)) (grown13 : Int) (kq14 : Int) (kn : (List DQuota) × Int × Int × (List DQuota) × Int × Int × Unit → Option γ) (kx : (List DQuota) × Int × Int × (List DQuota) × Int × Unit → Option γ) (kr : Bool × Unit → Option γ) : laws_FnUseQuota_l0K list9 n10 amount11 x12 grown13 kq14 kn kx kr = (laws_FnUseQuota_l0 (list9, n10, amount11, x12, grown13, kq14, ())).bind fun r => sum3K r kn kx kr := by
  simp only [laws_FnUseQuota_l0K, laws_FnUseQuota_l0, cond_bind', chk_bind', nnK_bind', getK_bind', getBK_bind', endK_bind', bind_bind', some_bind', none_bind', sum3K_1, sum3K_2, sum3K_3, sum2K_1, sum2K_2]
noncomputable def laws_FnUseQuotaK {γ : Type} (code1 : (List Int)) (k : Bool → Option γ) : Option γ :=
  bif decide ((code1.length : Int) > (1048576 : Int)) then
    k true
  else
  (spec_DrawUseQuota code1).bind fun r2 =>
  (impl_UseQuota r2.2.2 r2.1 r2.2.1).bind fun r3 =>
  (spec_UseQuota r2.2.2 r2.1 r2.2.1).bind fun r4 =>
  (laws_sameQuotas r3.2 r4.2).bind fun r5 =>
  bif (!(!r5)) then
    bif (!(r3.1 == r4.1)) then
      k false
    else
    bif (!r3.1) then
      bif (!((r3.2.length : Int) == (0 : Int))) then
        (laws_sameQuotas r3.2 r2.2.2).bind fun r6 =>
        bif r6 then
          (laws_alive).bind fun r7 =>
          k r7
        else
        k false
      else
      (laws_alive).bind fun r8 =>
      k r8
    else
    (loopF laws_FnUseQuota_l0 (r2.2.2, r2.1, r2.2.1, r3.2, (0 : Int), (0 : Int), ())).bind fun q => endK q (fun z23 =>
      (loopF laws_FnUseQuota_l2 (z23.1, z23.2.1, z23.2.2.1, z23.2.2.2.1, z23.2.2.2.2.1, (0 : Int), z23.2.1, ())).bind fun z34 =>
      (impl_FreeQuota z34.2.2.2.1 z34.2.1 z34.2.2.1).bind fun r35 =>
      (impl_QuotasValid z34.2.2.2.1).bind fun r36 =>
      bif r36 then
        bif r35.1 then
          (laws_sameQuotas r35.2 z34.1).bind fun r37 =>
          bif r37 then
            bif (z34.2.2.1 == (0 : Int)) then
              bif (!(z34.2.2.2.2.1 == (0 : Int))) then
                bif decide (z34.2.2.1 > (0 : Int)) then
                  k (z34.2.2.2.2.1 == z34.2.2.2.2.2.1)
                else
                k false
              else
              k true
            else
            bif decide (z34.2.2.1 > (0 : Int)) then
              k (z34.2.2.2.2.1 == z34.2.2.2.2.2.1)
            else
            k false
          else
          k false
        else
        k false
      else
      k false) (fun z24 =>
      k z24.1)
  else
  k false
noncomputable def laws_FnUseQuota (code1 : (List Int)) : Option (Bool) :=
  laws_FnUseQuotaK code1 some
theorem laws_FnUseQuota_eq {γ : Type} (code1 : (List Int)) (k : Bool → Option γ) : laws_FnUseQuotaK code1 k = (laws_FnUseQuota code1).bind k := by
  simp only [laws_FnUseQuotaK, laws_FnUseQuota, cond_bind', chk_bind', nnK_bind', getK_bind', getBK_bind', endK_bind', bind_bind', some_bind', none_bind', sum3K_1, sum3K_2, sum3K_3, sum2K_1, sum2K_2]

/-! loop.example/capkernel/spec.DrawFreeQuota -/
noncomputable def spec_DrawFreeQuotaK {γ : Type} (code1 : (List Int)) (k : Int × Int × (List DQuota) → Option γ) : Option γ :=
  (spec_l20Open code1).bind fun r2 =>
  (spec_l20Quotas (14 : Int) r2).bind fun r3 =>
  (spec_l20Rd_pick (IntKind.wrap .i64 ((r3.2.length : Int) + (1 : Int))) r3.1).bind fun r4 =>
  (spec_l20Rd_pick (14 : Int) r4.2).bind fun r5 =>
  (spec_l20Rd_pick (30 : Int) r5.2).bind fun r6 =>
  (spec_l20Rd_pick (7 : Int) r6.2).bind fun r7 =>
  nnK r7.1 fun i8 =>
  getK [(0 : Int), (0 : Int), (0 : Int), (0 : Int), (1 : Int), (2 : Int), (3 : Int)] i8 fun v9 =>
  nnK v9 fun i10 =>
  getK [r6.1, (0 : Int), (-1 : Int), (9223372036854775807 : Int)] i10 fun v11 =>
  k ((IntKind.wrap .i64 (r4.1 - (IntKind.wrap .i64 (Int.tdiv r5.1 (13 : Int))))), v11, r3.2)
noncomputable def spec_DrawFreeQuota (code1 : (List Int)) : Option (Int × Int × (List DQuota)) :=
  spec_DrawFreeQuotaK code1 some
theorem spec_DrawFreeQuota_eq {γ : Type} (code1 : (List Int)) (k : Int × Int × (List DQuota) → Option γ) : spec_DrawFreeQuotaK code1 k = (spec_DrawFreeQuota code1).bind k := by
  simp only [spec_DrawFreeQuotaK, spec_DrawFreeQuota, cond_bind', chk_bind', nnK_bind', getK_bind', getBK_bind', endK_bind', bind_bind', some_bind', none_bind', sum3K_1, sum3K_2, sum3K_3, sum2K_1, sum2K_2]

/-! loop.example/capkernel/laws.FnFreeQuota -/
noncomputable def laws_FnFreeQuota_l0K {γ : Type} (list10 : (List DQuota)) (n11 : Int) (x12 : (List DQuota)) (back13 : (List DQuota)) (good14 : Bool) (parts15 : Int) (kq16 : Int) (kn : (List DQuota) × Int × (List DQuota) × (List DQuota) × Bool × Int × Int × Unit → Option γ) (kx : (List DQuota) × Int × (List DQuota) × (List DQuota) × Bool × Int × Unit → Option γ) : Option γ :=
  bif decide (kq16 < (list10.length : Int)) then
    nnK kq16 fun i17 =>
    getK list10 i17 fun v18 =>
    bif (v18.1 == n11) then
      nnK kq16 fun i19 =>
      getK list10 i19 fun v20 =>
      kn (list10, n11, x12, back13, good14, (IntKind.wrap .i64 (parts15 + v20.2.2.1)), (IntKind.wrap .i64 (kq16 + (1 : Int))), ())
    else
    kn (list10, n11, x12, back13, good14, parts15, (IntKind.wrap .i64 (kq16 + (1 : Int))), ())
  else
  kx (list10, n11, x12, back13, good14, parts15, ())
noncomputable def laws_FnFreeQuota_l0 (x : (List DQuota) × Int × (List DQuota) × (List DQuota) × Bool × Int × Int × Unit) : Option (((List DQuota) × Int × (List DQuota) × (List DQuota) × Bool × Int × Int × Unit) ⊕ ((List DQuota) × Int × (List DQuota) × (List DQuota) × Bool × Int × Unit)) :=
  laws_FnFreeQuota_l0K x.1 x.2.1 x.2.2.1 x.2.2.2.1 x.2.2.2.2.1 x.2.2.2.2.2.1 x.2.2.2.2.2.2.1 (fun y => some (.inl y)) (fun a => some (.inr a))
theorem laws_FnFreeQuota_l0_eq {γ : Type} (list10 : (List DQuota)) (n11 : Int) (x12 : (List DQuota)) (back13 : (List DQuota)) (good14 : Bool) (parts15 : Int) (kq16 : Int) (kn : (List DQuota) × Int × (List DQuota) × (List DQuota) × Bool × Int × Int × Unit → Option γ) (kx : (List DQuota) × Int × (List DQuota) × (List DQuota) × Bool × Int × Unit → Option γ) : laws_FnFreeQuota_l0K list10 n11 x12 back13 good14 parts15 kq16 kn kx = (laws_FnFreeQuota_l0 (list10, n11, x12, back13, good14, parts15, kq16, ())).bind fun r => sum2K r kn kx := by
  simp only [laws_FnFreeQuota_l0K, laws_FnFreeQuota_l0, cond_bind', chk_bind', nnK_bind', getK_bind', getBK_bind', endK_bind', bind_bind', some_bind', none_bind', sum3K_1, sum3K_2, sum3K_3, sum2K_1, sum2K_2]
noncomputable def laws_FnFreeQuotaK {γ : Type} (code1 : (List Int)) (k : Bool → Option γ) : Option γ :=
  bif decide ((code1.length : Int) > (1048576 : Int)) then
    k true
  else
  (spec_DrawFreeQuota code1).bind fun r2 =>
  (impl_FreeQuota r2.2.2 r2.1 r2.2.1).bind fun r3 =>
  (spec_FreeQuota r2.2.2 r2.1 r2.2.1).bind fun r4 =>
  (laws_sameQuotas r3.2 r4.2).bind fun r5 =>
  bif (!(!r5)) then
    bif (!(r3.1 == r4.1)) then
      k false
    else
    bif (!r3.1) then
      bif (!((r3.2.length : Int) == (0 : Int))) then
        (laws_sameQuotas r3.2 r2.2.2).bind fun r6 =>
        bif r6 then
          (laws_alive).bind fun r7 =>
          k r7
        else
        k false
      else
      (laws_alive).bind fun r8 =>
      k r8
    else
    (impl_UseQuota r3.2 r2.1 r2.2.1).bind fun r9 =>
    (loopF laws_FnFreeQuota_l0 (r2.2.2, r2.1, r3.2, r9.2, r9.1, (0 : Int), (0 : Int), ())).bind fun z21 =>
    (impl_QuotasValid z21.2.2.1).bind fun r22 =>
    bif r22 then
      bif z21.2.2.2.2.1 then
        (laws_sameQuotas z21.2.2.2.1 z21.1).bind fun r23 =>
        bif r23 then
          nnK z21.2.1 fun i24 =>
          getK z21.2.2.1 i24 fun v25 =>
          bif decide (v25.2.2.1 ≥ z21.2.2.2.2.2.1) then
            (impl_QuotaRoom z21.2.2.1 z21.2.1).bind fun r26 =>
            (impl_QuotaRoom z21.1 z21.2.1).bind fun r27 =>
            k (decide (r26 ≥ r27))
          else
          k false
        else
        k false
      else
      k false
    else
    k false
  else
  k false
noncomputable def laws_FnFreeQuota (code1 : (List Int)) : Option (Bool) :=
  laws_FnFreeQuotaK code1 some
theorem laws_FnFreeQuota_eq {γ : Type} (code1 : (List Int)) (k : Bool → Option γ) : laws_FnFreeQuotaK code1 k = (laws_FnFreeQuota code1).bind k := by
  simp only [laws_FnFreeQuotaK, laws_FnFreeQuota, cond_bind', chk_bind', nnK_bind', getK_bind', getBK_bind', endK_bind', bind_bind', some_bind', none_bind', sum3K_1, sum3K_2, sum3K_3, sum2K_1, sum2K_2]

end Go.Ev
