/-
  What the functions of the program compute, as functions of plain data; printed by a program of the prover.
-/
import Derived.Test.YtbkkjmhmcnfhpaaEv3
namespace Go.Ev
set_option linter.unusedVariables false
set_option linter.unusedSimpArgs false
set_option maxRecDepth 100000
abbrev I : Ty := .int .i64
abbrev DCap : Type := Int × Int × Int × Int × Unit
abbrev tCap : Ty := .cons I (.cons I (.cons I (.cons I (.nil))))
abbrev DTable : Type := Int × Int × Int × (List DCap) × Unit
abbrev tTable : Ty := .cons I (.cons I (.cons I (.cons (.sl tCap) (.nil))))
abbrev Dl20Rd : Type := (List Int) × Int × Unit
abbrev tl20Rd : Ty := .cons (.sl (.int .u8)) (.cons I (.nil))
/-! loop.example/capkernel/laws.szCapS -/
noncomputable def laws_szCapSK {γ : Type} (a1 : (List DCap)) (left2 : Int) (k : Int → Option γ) : Option γ :=
  bif decide ((IntKind.wrap .i64 (left2 - (a1.length : Int))) < (0 : Int)) then
    k (-1 : Int)
  else
  k (IntKind.wrap .i64 (left2 - (a1.length : Int)))
noncomputable def laws_szCapS (a1 : (List DCap)) (left2 : Int) : Option (Int) :=
  laws_szCapSK a1 left2 some
theorem laws_szCapS_eq {γ : Type} (a1 : (List DCap)) (left2 : Int) (k : Int → Option γ) : laws_szCapSK a1 left2 k = (laws_szCapS a1 left2).bind k := by
  simp only [laws_szCapSK, laws_szCapS, cond_bind', chk_bind', nnK_bind', getK_bind', getBK_bind', endK_bind', bind_bind', some_bind', none_bind', sum3K_1, sum3K_2, sum3K_3, sum2K_1, sum2K_2]

/-! loop.example/capkernel/laws.szTable -/
noncomputable def laws_szTableK {γ : Type} (a1 : DTable) (left2 : Int) (k : Int → Option γ) : Option γ :=
  (laws_szCapS a1.2.2.2.1 left2).bind fun r3 =>
  bif decide (r3 < (0 : Int)) then
    k (-1 : Int)
  else
  k r3
noncomputable def laws_szTable (a1 : DTable) (left2 : Int) : Option (Int) :=
  laws_szTableK a1 left2 some
theorem laws_szTable_eq {γ : Type} (a1 : DTable) (left2 : Int) (k : Int → Option γ) : laws_szTableK a1 left2 k = (laws_szTable a1 left2).bind k := by
  simp only [laws_szTableK, laws_szTable, cond_bind', chk_bind', nnK_bind', getK_bind', getBK_bind', endK_bind', bind_bind', some_bind', none_bind', sum3K_1, sum3K_2, sum3K_3, sum2K_1, sum2K_2]

/-! loop.example/capkernel/laws.toCap -/
noncomputable def laws_toCapK {γ : Type} (a1 : DCap) (k : DCap → Option γ) : Option γ :=
  k (a1.1, a1.2.1, a1.2.2.1, a1.2.2.2.1, ())
noncomputable def laws_toCap (a1 : DCap) : Option (DCap) :=
  laws_toCapK a1 some
theorem laws_toCap_eq {γ : Type} (a1 : DCap) (k : DCap → Option γ) : laws_toCapK a1 k = (laws_toCap a1).bind k := by
  simp only [laws_toCapK, laws_toCap, cond_bind', chk_bind', nnK_bind', getK_bind', getBK_bind', endK_bind', bind_bind', some_bind', none_bind', sum3K_1, sum3K_2, sum3K_3, sum2K_1, sum2K_2]

/-! loop.example/capkernel/laws.toCapS -/
noncomputable def laws_toCapS_l0K {γ : Type} (a2 : (List DCap)) (i3 : Int) (b4 : (List DCap)) (kn : (List DCap) × Int × (List DCap) × Unit → Option γ) (kx : (List DCap) × Unit → Option γ) : Option γ :=
  bif decide (i3 < (a2.length : Int)) then
    nnK i3 fun i5 =>
    getK a2 i5 fun v6 =>
    (laws_toCap v6).bind fun r7 =>
    nnK i3 fun i8 =>
    chk (i8 < b4.length) <|
    getK b4 i8 fun y9 =>
    kn (a2, (IntKind.wrap .i64 (i3 + (1 : Int))), (b4.set i8 (r7.1, r7.2.1, r7.2.2.1, r7.2.2.2.1, ())), ())
  else
  kx (b4, ())
noncomputable def laws_toCapS_l0 (x : (List DCap) × Int × (List DCap) × Unit) : Option (((List DCap) × Int × (List DCap) × Unit) ⊕ ((List DCap) × Unit)) :=
  laws_toCapS_l0K x.1 x.2.1 x.2.2.1 (fun y => some (.inl y)) (fun a => some (.inr a))
theorem laws_toCapS_l0_eq {γ : Type} (a2 : (List DCap)) (i3 : Int) (b4 : (List DCap)) (kn : (List DCap) × Int × (List DCap) × Unit → Option γ) (kx : (List DCap) × Unit → Option γ) : laws_toCapS_l0K a2 i3 b4 kn kx = (laws_toCapS_l0 (a2, i3, b4, ())).bind fun r => sum2K r kn kx := by
  simp only [laws_toCapS_l0K, laws_toCapS_l0, cond_bind', chk_bind', nnK_bind', getK_bind', getBK_bind', endK_bind', bind_bind', some_bind', none_bind', sum3K_1, sum3K_2, sum3K_3, sum2K_1, sum2K_2]
noncomputable def laws_toCapSK {γ : Type} (a1 : (List DCap)) (k : (List DCap) → Option γ) : Option γ :=
  chk (a1.length ≤ bigRow) <|
  (loopF laws_toCapS_l0 (a1, (0 : Int), (List.replicate a1.length ((0 : Int), (0 : Int), (0 : Int), (0 : Int), ())), ())).bind fun z10 =>
  k z10.1
noncomputable def laws_toCapS (a1 : (List DCap)) : Option ((List DCap)) :=
  laws_toCapSK a1 some
theorem laws_toCapS_eq {γ : Type} (a1 : (List DCap)) (k : (List DCap) → Option γ) : laws_toCapSK a1 k = (laws_toCapS a1).bind k := by
  simp only [laws_toCapSK, laws_toCapS, cond_bind', chk_bind', nnK_bind', getK_bind', getBK_bind', endK_bind', bind_bind', some_bind', none_bind', sum3K_1, sum3K_2, sum3K_3, sum2K_1, sum2K_2]

/-! loop.example/capkernel/laws.toTable -/
noncomputable def laws_toTableK {γ : Type} (a1 : DTable) (k : Int × Int × Int × (List DCap) → Option γ) : Option γ :=
  (laws_toCapS a1.2.2.2.1).bind fun r2 =>
  k (a1.1, a1.2.1, a1.2.2.1, r2)
noncomputable def laws_toTable (a1 : DTable) : Option (Int × Int × Int × (List DCap)) :=
  laws_toTableK a1 some
theorem laws_toTable_eq {γ : Type} (a1 : DTable) (k : Int × Int × Int × (List DCap) → Option γ) : laws_toTableK a1 k = (laws_toTable a1).bind k := by
  simp only [laws_toTableK, laws_toTable, cond_bind', chk_bind', nnK_bind', getK_bind', getBK_bind', endK_bind', bind_bind', some_bind', none_bind', sum3K_1, sum3K_2, sum3K_3, sum2K_1, sum2K_2]

/-! loop.example/capkernel/spec.l1In -/
noncomputable def spec_l1InK {γ : Type} (n1 : Int) (lo2 : Int) (hi3 : Int) (k : Bool → Option γ) : Option γ :=
  bif decide (n1 ≥ lo2) then
    k (decide (n1 ≤ hi3))
  else
  k false
noncomputable def spec_l1In (n1 : Int) (lo2 : Int) (hi3 : Int) : Option (Bool) :=
  spec_l1InK n1 lo2 hi3 some
theorem spec_l1In_eq {γ : Type} (n1 : Int) (lo2 : Int) (hi3 : Int) (k : Bool → Option γ) : spec_l1InK n1 lo2 hi3 k = (spec_l1In n1 lo2 hi3).bind k := by
  simp only [spec_l1InK, spec_l1In, cond_bind', chk_bind', nnK_bind', getK_bind', getBK_bind', endK_bind', bind_bind', some_bind', none_bind', sum3K_1, sum3K_2, sum3K_3, sum2K_1, sum2K_2]

/-! loop.example/capkernel/spec.RightsValid -/
noncomputable def spec_RightsValidK {γ : Type} (n1 : Int) (k : Bool → Option γ) : Option γ :=
  (spec_l1In n1 (0 : Int) (15 : Int)).bind fun r2 =>
  k r2
noncomputable def spec_RightsValid (n1 : Int) : Option (Bool) :=
  spec_RightsValidK n1 some
theorem spec_RightsValid_eq {γ : Type} (n1 : Int) (k : Bool → Option γ) : spec_RightsValidK n1 k = (spec_RightsValid n1).bind k := by
  simp only [spec_RightsValidK, spec_RightsValid, cond_bind', chk_bind', nnK_bind', getK_bind', getBK_bind', endK_bind', bind_bind', some_bind', none_bind', sum3K_1, sum3K_2, sum3K_3, sum2K_1, sum2K_2]

/-! loop.example/capkernel/spec.l2Badged -/
noncomputable def spec_l2BadgedK {γ : Type} (kind1 : Int) (k : Bool → Option γ) : Option γ :=
  bif (!(kind1 == (4 : Int))) then
    k (kind1 == (5 : Int))
  else
  k true
noncomputable def spec_l2Badged (kind1 : Int) : Option (Bool) :=
  spec_l2BadgedK kind1 some
theorem spec_l2Badged_eq {γ : Type} (kind1 : Int) (k : Bool → Option γ) : spec_l2BadgedK kind1 k = (spec_l2Badged kind1).bind k := by
  simp only [spec_l2BadgedK, spec_l2Badged, cond_bind', chk_bind', nnK_bind', getK_bind', getBK_bind', endK_bind', bind_bind', some_bind', none_bind', sum3K_1, sum3K_2, sum3K_3, sum2K_1, sum2K_2]

/-! loop.example/capkernel/spec.CapValid -/
noncomputable def spec_CapValidK {γ : Type} (c1 : DCap) (k : Bool → Option γ) : Option γ :=
  bif (c1.1 == (0 : Int)) then
    k ((decide (c1.1 = (0 : Int)) && (decide (c1.2.1 = (0 : Int)) && (decide (c1.2.2.1 = (0 : Int)) && (decide (c1.2.2.2.1 = (0 : Int)) && true)))))
  else
  (spec_l1In c1.1 (1 : Int) (7 : Int)).bind fun r2 =>
  bif r2 then
    (spec_l1In c1.2.1 (0 : Int) (99 : Int)).bind fun r3 =>
    bif r3 then
      (spec_RightsValid c1.2.2.1).bind fun r4 =>
      bif r4 then
        bif (!(c1.2.2.2.1 == (0 : Int))) then
          (spec_l2Badged c1.1).bind fun r5 =>
          bif r5 then
            (spec_l1In c1.2.2.2.1 (0 : Int) (999 : Int)).bind fun r6 =>
            k r6
          else
          k false
        else
        k true
      else
      k false
    else
    k false
  else
  k false
noncomputable def spec_CapValid (c1 : DCap) : Option (Bool) :=
  spec_CapValidK c1 some
theorem spec_CapValid_eq {γ : Type} (c1 : DCap) (k : Bool → Option γ) : spec_CapValidK c1 k = (spec_CapValid c1).bind k := by
  simp only [spec_CapValidK, spec_CapValid, cond_bind', chk_bind', nnK_bind', getK_bind', getBK_bind', endK_bind', bind_bind', some_bind', none_bind', sum3K_1, sum3K_2, sum3K_3, sum2K_1, sum2K_2]

/-! loop.example/capkernel/spec.TableValid -/
noncomputable def spec_TableValid_l0K {γ : Type} (t5 : DTable) (kq6 : Int) (kn : DTable × Int × Unit → Option γ) (kx : Unit → Option γ) (kr : Bool × Unit → Option γ) : Option γ :=
  bif decide (kq6 < (t5.2.2.2.1.length : Int)) then
    nnK kq6 fun i7 =>
    getK t5.2.2.2.1 i7 fun v8 =>
    (spec_CapValid v8).bind fun r9 =>
    bif (!r9) then
      kr (false, ())
    else
    kn (t5, (IntKind.wrap .i64 (kq6 + (1 : Int))), ())
  else
  kx ()
noncomputable def spec_TableValid_l0 (x : DTable × Int × Unit) : Option ((DTable × Int × Unit) ⊕ ((Unit) ⊕ (Bool × Unit))) :=
  spec_TableValid_l0K x.1 x.2.1 (fun y => some (.inl y)) (fun a => some (.inr (.inl a))) (fun b => some (.inr (.inr b)))
theorem spec_TableValid_l0_eq {γ : Type} (t5 : DTable) (kq6 : Int) (kn : DTable × Int × Unit → Option γ) (kx : Unit → Option γ) (kr : Bool × Unit → Option γ) : spec_TableValid_l0K t5 kq6 kn kx kr = (spec_TableValid_l0 (t5, kq6, ())).bind fun r => sum3K r kn kx kr := by
  simp only [spec_TableValid_l0K, spec_TableValid_l0, cond_bind', chk_bind', nnK_bind', getK_bind', getBK_bind', endK_bind', bind_bind', some_bind', none_bind', sum3K_1, sum3K_2, sum3K_3, sum2K_1, sum2K_2]
noncomputable def spec_TableValidK {γ : Type} (t1 : DTable) (k : Bool → Option γ) : Option γ :=
  (spec_l1In t1.1 (1 : Int) (4 : Int)).bind fun r2 =>
  bif (!(!r2)) then
    (spec_l1In t1.2.2.1 (0 : Int) (4 : Int)).bind fun r3 =>
    bif (!(!r3)) then
      chk (0 ≤ t1.2.2.1) <|
      (spec_l1In t1.2.1 (0 : Int) (IntKind.wrap .i64 ((IntKind.wrap .i64 ((1 : Int) * 2 ^ (min (t1.2.2.1).toNat 64))) - (1 : Int)))).bind fun r4 =>
      bif (!(!r4)) then
        chk (0 ≤ t1.1) <|
        bif ((t1.2.2.2.1.length : Int) != (IntKind.wrap .i64 ((1 : Int) * 2 ^ (min (t1.1).toNat 64)))) then
          k false
        else
        (loopF spec_TableValid_l0 ((t1.1, t1.2.1, t1.2.2.1, t1.2.2.2.1, ()), (0 : Int), ())).bind fun q => endK q (fun z10 =>
          k true) (fun z11 =>
          k z11.1)
      else
      k false
    else
    k false
  else
  k false
noncomputable def spec_TableValid (t1 : DTable) : Option (Bool) :=
  spec_TableValidK t1 some
theorem spec_TableValid_eq {γ : Type} (t1 : DTable) (k : Bool → Option γ) : spec_TableValidK t1 k = (spec_TableValid t1).bind k := by
  simp only [spec_TableValidK, spec_TableValid, cond_bind', chk_bind', nnK_bind', getK_bind', getBK_bind', endK_bind', bind_bind', some_bind', none_bind', sum3K_1, sum3K_2, sum3K_3, sum2K_1, sum2K_2]

/-! loop.example/capkernel/spec.PackCap -/
noncomputable def spec_PackCapK {γ : Type} (c1 : DCap) (k : Int → Option γ) : Option γ :=
  (spec_CapValid (c1.1, c1.2.1, c1.2.2.1, c1.2.2.2.1, ())).bind fun r2 =>
  bif (!r2) then
    k (-1 : Int)
  else
  k (IntKind.wrap .i64 (c1.1 + (IntKind.wrap .i64 ((8 : Int) * (IntKind.wrap .i64 (c1.2.1 + (IntKind.wrap .i64 ((100 : Int) * (IntKind.wrap .i64 (c1.2.2.1 + (IntKind.wrap .i64 ((16 : Int) * c1.2.2.2.1))))))))))))
noncomputable def spec_PackCap (c1 : DCap) : Option (Int) :=
  spec_PackCapK c1 some
theorem spec_PackCap_eq {γ : Type} (c1 : DCap) (k : Int → Option γ) : spec_PackCapK c1 k = (spec_PackCap c1).bind k := by
  simp only [spec_PackCapK, spec_PackCap, cond_bind', chk_bind', nnK_bind', getK_bind', getBK_bind', endK_bind', bind_bind', some_bind', none_bind', sum3K_1, sum3K_2, sum3K_3, sum2K_1, sum2K_2]

/-! loop.example/capkernel/spec.PackTable -/
noncomputable def spec_PackTable_l0K {γ : Type} (t3 : DTable) (kq4 : Int) (b5 : (List Int)) (kn : DTable × Int × (List Int) × Unit → Option γ) (kx : (List Int) × Unit → Option γ) : Option γ :=
  bif decide (kq4 < (t3.2.2.2.1.length : Int)) then
    nnK kq4 fun i6 =>
    getK t3.2.2.2.1 i6 fun v7 =>
    (spec_PackCap v7).bind fun r8 =>
    chk ((b5.length + 1) ≤ bigRow) <|
    kn (t3, (IntKind.wrap .i64 (kq4 + (1 : Int))), (b5 ++ [r8]), ())
  else
  kx (b5, ())
noncomputable def spec_PackTable_l0 (x : DTable × Int × (List Int) × Unit) : Option ((DTable × Int × (List Int) × Unit) ⊕ ((List Int) × Unit)) :=
  spec_PackTable_l0K x.1 x.2.1 x.2.2.1 (fun y => some (.inl y)) (fun a => some (.inr a))
theorem spec_PackTable_l0_eq {γ : Type} (t3 : DTable) (kq4 : Int) (b5 : (List Int)) (kn : DTable × Int × (List Int) × Unit → Option γ) (kx : (List Int) × Unit → Option γ) : spec_PackTable_l0K t3 kq4 b5 kn kx = (spec_PackTable_l0 (t3, kq4, b5, ())).bind fun r => sum2K r kn kx := by
  simp only [spec_PackTable_l0K, spec_PackTable_l0, cond_bind', chk_bind', nnK_bind', getK_bind', getBK_bind', endK_bind', bind_bind', some_bind', none_bind', sum3K_1, sum3K_2, sum3K_3, sum2K_1, sum2K_2]
noncomputable def spec_PackTableK {γ : Type} (t1 : DTable) (k : (List Int) → Option γ) : Option γ :=
  (spec_TableValid (t1.1, t1.2.1, t1.2.2.1, t1.2.2.2.1, ())).bind fun r2 =>
  bif (!r2) then
    k []
  else
  (loopF spec_PackTable_l0 ((t1.1, t1.2.1, t1.2.2.1, t1.2.2.2.1, ()), (0 : Int), [(IntKind.wrap .i64 (t1.1 + (IntKind.wrap .i64 ((8 : Int) * (IntKind.wrap .i64 (t1.2.2.1 + (IntKind.wrap .i64 ((8 : Int) * t1.2.1))))))))], ())).bind fun z9 =>
  k z9.1
noncomputable def spec_PackTable (t1 : DTable) : Option ((List Int)) :=
  spec_PackTableK t1 some
theorem spec_PackTable_eq {γ : Type} (t1 : DTable) (k : (List Int) → Option γ) : spec_PackTableK t1 k = (spec_PackTable t1).bind k := by
  simp only [spec_PackTableK, spec_PackTable, cond_bind', chk_bind', nnK_bind', getK_bind', getBK_bind', endK_bind', bind_bind', some_bind', none_bind', sum3K_1, sum3K_2, sum3K_3, sum2K_1, sum2K_2]

/-! loop.example/capkernel/impl.in -/
noncomputable def impl_inK {γ : Type} (n1 : Int) (lo2 : Int) (hi3 : Int) (k : Bool → Option γ) : Option γ :=
  bif decide (n1 ≥ lo2) then
    k (decide (n1 ≤ hi3))
  else
  k false
noncomputable def impl_in (n1 : Int) (lo2 : Int) (hi3 : Int) : Option (Bool) :=
  impl_inK n1 lo2 hi3 some
theorem impl_in_eq {γ : Type} (n1 : Int) (lo2 : Int) (hi3 : Int) (k : Bool → Option γ) : impl_inK n1 lo2 hi3 k = (impl_in n1 lo2 hi3).bind k := by
  simp only [impl_inK, impl_in, cond_bind', chk_bind', nnK_bind', getK_bind', getBK_bind', endK_bind', bind_bind', some_bind', none_bind', sum3K_1, sum3K_2, sum3K_3, sum2K_1, sum2K_2]

/-! loop.example/capkernel/impl.isObject -/
noncomputable def impl_isObjectK {γ : Type} (n1 : Int) (k : Bool → Option γ) : Option γ :=
  (impl_in n1 (0 : Int) (99 : Int)).bind fun r2 =>
  k r2
noncomputable def impl_isObject (n1 : Int) : Option (Bool) :=
  impl_isObjectK n1 some
theorem impl_isObject_eq {γ : Type} (n1 : Int) (k : Bool → Option γ) : impl_isObjectK n1 k = (impl_isObject n1).bind k := by
  simp only [impl_isObjectK, impl_isObject, cond_bind', chk_bind', nnK_bind', getK_bind', getBK_bind', endK_bind', bind_bind', some_bind', none_bind', sum3K_1, sum3K_2, sum3K_3, sum2K_1, sum2K_2]

/-! loop.example/capkernel/impl.RightsValid -/
noncomputable def impl_RightsValidK {γ : Type} (n1 : Int) (k : Bool → Option γ) : Option γ :=
  (impl_in n1 (0 : Int) (15 : Int)).bind fun r2 =>
  k r2
noncomputable def impl_RightsValid (n1 : Int) : Option (Bool) :=
  impl_RightsValidK n1 some
theorem impl_RightsValid_eq {γ : Type} (n1 : Int) (k : Bool → Option γ) : impl_RightsValidK n1 k = (impl_RightsValid n1).bind k := by
  simp only [impl_RightsValidK, impl_RightsValid, cond_bind', chk_bind', nnK_bind', getK_bind', getBK_bind', endK_bind', bind_bind', some_bind', none_bind', sum3K_1, sum3K_2, sum3K_3, sum2K_1, sum2K_2]

/-! loop.example/capkernel/impl.badged -/
noncomputable def impl_badgedK {γ : Type} (kind1 : Int) (k : Bool → Option γ) : Option γ :=
  bif (!(kind1 == (4 : Int))) then
    k (kind1 == (5 : Int))
  else
  k true
noncomputable def impl_badged (kind1 : Int) : Option (Bool) :=
  impl_badgedK kind1 some
theorem impl_badged_eq {γ : Type} (kind1 : Int) (k : Bool → Option γ) : impl_badgedK kind1 k = (impl_badged kind1).bind k := by
  simp only [impl_badgedK, impl_badged, cond_bind', chk_bind', nnK_bind', getK_bind', getBK_bind', endK_bind', bind_bind', some_bind', none_bind', sum3K_1, sum3K_2, sum3K_3, sum2K_1, sum2K_2]

/-! loop.example/capkernel/impl.CapValid -/
noncomputable def impl_CapValidK {γ : Type} (c1 : DCap) (k : Bool → Option γ) : Option γ :=
  bif (c1.1 == (0 : Int)) then
    k ((decide (c1.1 = (0 : Int)) && (decide (c1.2.1 = (0 : Int)) && (decide (c1.2.2.1 = (0 : Int)) && (decide (c1.2.2.2.1 = (0 : Int)) && true)))))
  else
  (impl_in c1.1 (1 : Int) (7 : Int)).bind fun r2 =>
  bif r2 then
    (impl_isObject c1.2.1).bind fun r3 =>
    bif r3 then
      (impl_RightsValid c1.2.2.1).bind fun r4 =>
      bif r4 then
        (impl_badged c1.1).bind fun r5 =>
        bif r5 then
          (impl_in c1.2.2.2.1 (0 : Int) (999 : Int)).bind fun r6 =>
          bif (!r6) then
            k (c1.2.2.2.1 == (0 : Int))
          else
          k true
        else
        k (c1.2.2.2.1 == (0 : Int))
      else
      k false
    else
    k false
  else
  k false
noncomputable def impl_CapValid (c1 : DCap) : Option (Bool) :=
  impl_CapValidK c1 some
theorem impl_CapValid_eq {γ : Type} (c1 : DCap) (k : Bool → Option γ) : impl_CapValidK c1 k = (impl_CapValid c1).bind k := by
  simp only [impl_CapValidK, impl_CapValid, cond_bind', chk_bind', nnK_bind', getK_bind', getBK_bind', endK_bind', bind_bind', some_bind', none_bind', sum3K_1, sum3K_2, sum3K_3, sum2K_1, sum2K_2]

/-! loop.example/capkernel/impl.anyInvalid$1 -/
noncomputable def impl_anyInvalid_c1K {γ : Type} (c1 : DCap) (k : Bool → Option γ) : Option γ :=
  (impl_CapValid (c1.1, c1.2.1, c1.2.2.1, c1.2.2.2.1, ())).bind fun r2 =>
  k (!r2)
noncomputable def impl_anyInvalid_c1 (c1 : DCap) : Option (Bool) :=
  impl_anyInvalid_c1K c1 some
theorem impl_anyInvalid_c1_eq {γ : Type} (c1 : DCap) (k : Bool → Option γ) : impl_anyInvalid_c1K c1 k = (impl_anyInvalid_c1 c1).bind k := by
  simp only [impl_anyInvalid_c1K, impl_anyInvalid_c1, cond_bind', chk_bind', nnK_bind', getK_bind', getBK_bind', endK_bind', bind_bind', some_bind', none_bind', sum3K_1, sum3K_2, sum3K_3, sum2K_1, sum2K_2]

/-! slices.IndexFunc(()loop.example/capkernel/impl.Cap,loop.example/capkernel/impl.Cap) -/
noncomputable def slices_IndexFunc_Cap_l0K {γ : Type} (sq2 : (List DCap)) (a3 : Int) (a4 : Int) (kn : (List DCap) × Int × Int × Unit → Option γ) (kx : Unit → Option γ) (kr : Int × Unit → Option γ) : Option γ :=
  bif decide (a4 < a3) then
    nnK a4 fun i5 =>
    getK sq2 i5 fun v6 =>
    (impl_anyInvalid_c1 v6).bind fun r7 =>
    bif r7 then
      kr (a4, ())
    else
    kn (sq2, a3, (IntKind.wrap .i64 (a4 + (1 : Int))), ())
  else
  kx ()
noncomputable def slices_IndexFunc_Cap_l0 (x : (List DCap) × Int × Int × Unit) : Option (((List DCap) × Int × Int × Unit) ⊕ ((Unit) ⊕ (Int × Unit))) :=
  slices_IndexFunc_Cap_l0K x.1 x.2.1 x.2.2.1 (fun y => some (.inl y)) (fun a => some (.inr (.inl a))) (fun b => some (.inr (.inr b)))
theorem slices_IndexFunc_Cap_l0_eq {γ : Type} (sq2 : (List DCap)) (a3 : Int) (a4 : Int) (kn : (List DCap) × Int × Int × Unit → Option γ) (kx : Unit → Option γ) (kr : Int × Unit → Option γ) : slices_IndexFunc_Cap_l0K sq2 a3 a4 kn kx kr = (slices_IndexFunc_Cap_l0 (sq2, a3, a4, ())).bind fun r => sum3K r kn kx kr := by
  simp only [slices_IndexFunc_Cap_l0K, slices_IndexFunc_Cap_l0, cond_bind', chk_bind', nnK_bind', getK_bind', getBK_bind', endK_bind', bind_bind', some_bind', none_bind', sum3K_1, sum3K_2, sum3K_3, sum2K_1, sum2K_2]
noncomputable def slices_IndexFunc_CapK {γ : Type} (sq1 : (List DCap)) (k : Int → Option γ) : Option γ :=
  (loopF slices_IndexFunc_Cap_l0 (sq1, (sq1.length : Int), (0 : Int), ())).bind fun q => endK q (fun z8 =>
    k (-1 : Int)) (fun z9 =>
    k z9.1)
noncomputable def slices_IndexFunc_Cap (sq1 : (List DCap)) : Option (Int) :=
  slices_IndexFunc_CapK sq1 some
theorem slices_IndexFunc_Cap_eq {γ : Type} (sq1 : (List DCap)) (k : Int → Option γ) : slices_IndexFunc_CapK sq1 k = (slices_IndexFunc_Cap sq1).bind k := by
  simp only [slices_IndexFunc_CapK, slices_IndexFunc_Cap, cond_bind', chk_bind', nnK_bind', getK_bind', getBK_bind', endK_bind', bind_bind', some_bind', none_bind', sum3K_1, sum3K_2, sum3K_3, sum2K_1, sum2K_2]

/-! slices.ContainsFunc(()loop.example/capkernel/impl.Cap,loop.example/capkernel/impl.Cap) -/
noncomputable def slices_ContainsFunc_CapK {γ : Type} (sq1 : (List DCap)) (k : Bool → Option γ) : Option γ :=
  (slices_IndexFunc_Cap sq1).bind fun r2 =>
  k (decide (r2 ≥ (0 : Int)))
noncomputable def slices_ContainsFunc_Cap (sq1 : (List DCap)) : Option (Bool) :=
  slices_ContainsFunc_CapK sq1 some
theorem slices_ContainsFunc_Cap_eq {γ : Type} (sq1 : (List DCap)) (k : Bool → Option γ) : slices_ContainsFunc_CapK sq1 k = (slices_ContainsFunc_Cap sq1).bind k := by
  simp only [slices_ContainsFunc_CapK, slices_ContainsFunc_Cap, cond_bind', chk_bind', nnK_bind', getK_bind', getBK_bind', endK_bind', bind_bind', some_bind', none_bind', sum3K_1, sum3K_2, sum3K_3, sum2K_1, sum2K_2]

/-! loop.example/capkernel/impl.anyInvalid -/
noncomputable def impl_anyInvalidK {γ : Type} (list1 : (List DCap)) (k : Bool → Option γ) : Option γ :=
  (slices_ContainsFunc_Cap list1).bind fun r2 =>
  k r2
noncomputable def impl_anyInvalid (list1 : (List DCap)) : Option (Bool) :=
  impl_anyInvalidK list1 some
theorem impl_anyInvalid_eq {γ : Type} (list1 : (List DCap)) (k : Bool → Option γ) : impl_anyInvalidK list1 k = (impl_anyInvalid list1).bind k := by
  simp only [impl_anyInvalidK, impl_anyInvalid, cond_bind', chk_bind', nnK_bind', getK_bind', getBK_bind', endK_bind', bind_bind', some_bind', none_bind', sum3K_1, sum3K_2, sum3K_3, sum2K_1, sum2K_2]

/-! loop.example/capkernel/impl.TableValid -/
noncomputable def impl_TableValidK {γ : Type} (t1 : DTable) (k : Bool → Option γ) : Option γ :=
  (impl_in t1.1 (1 : Int) (4 : Int)).bind fun r2 =>
  bif r2 then
    (impl_in t1.2.2.1 (0 : Int) (4 : Int)).bind fun r3 =>
    bif r3 then
      chk (0 ≤ t1.2.2.1) <|
      (impl_in t1.2.1 (0 : Int) (IntKind.wrap .i64 ((IntKind.wrap .i64 ((1 : Int) * 2 ^ (min (t1.2.2.1).toNat 64))) - (1 : Int)))).bind fun r4 =>
      bif r4 then
        chk (0 ≤ t1.1) <|
        bif ((t1.2.2.2.1.length : Int) == (IntKind.wrap .i64 ((1 : Int) * 2 ^ (min (t1.1).toNat 64)))) then
          (impl_anyInvalid t1.2.2.2.1).bind fun r5 =>
          k (!r5)
        else
        k false
      else
      k false
    else
    k false
  else
  k false
noncomputable def impl_TableValid (t1 : DTable) : Option (Bool) :=
  impl_TableValidK t1 some
theorem impl_TableValid_eq {γ : Type} (t1 : DTable) (k : Bool → Option γ) : impl_TableValidK t1 k = (impl_TableValid t1).bind k := by
  simp only [impl_TableValidK, impl_TableValid, cond_bind', chk_bind', nnK_bind', getK_bind', getBK_bind', endK_bind', bind_bind', some_bind', none_bind', sum3K_1, sum3K_2, sum3K_3, sum2K_1, sum2K_2]

/-! loop.example/capkernel/impl.PackCap -/
noncomputable def impl_PackCapK {γ : Type} (c1 : DCap) (k : Int → Option γ) : Option γ :=
  (impl_CapValid (c1.1, c1.2.1, c1.2.2.1, c1.2.2.2.1, ())).bind fun r2 =>
  bif (!r2) then
    k (-1 : Int)
  else
  k (IntKind.wrap .i64 (c1.1 + (IntKind.wrap .i64 ((8 : Int) * (IntKind.wrap .i64 (c1.2.1 + (IntKind.wrap .i64 ((100 : Int) * (IntKind.wrap .i64 (c1.2.2.1 + (IntKind.wrap .i64 ((16 : Int) * c1.2.2.2.1))))))))))))
noncomputable def impl_PackCap (c1 : DCap) : Option (Int) :=
  impl_PackCapK c1 some
theorem impl_PackCap_eq {γ : Type} (c1 : DCap) (k : Int → Option γ) : impl_PackCapK c1 k = (impl_PackCap c1).bind k := by
  simp only [impl_PackCapK, impl_PackCap, cond_bind', chk_bind', nnK_bind', getK_bind', getBK_bind', endK_bind', bind_bind', some_bind', none_bind', sum3K_1, sum3K_2, sum3K_3, sum2K_1, sum2K_2]

/-! slices.Clip(()int,int) -/
noncomputable def slices_Clip_intK {γ : Type} (b1 : (List Int)) (k : (List Int) → Option γ) : Option γ :=
  chk (0 ≤ b1.length ∧ b1.length ≤ b1.length ∧ b1.length ≤ b1.length) <|
  chk (0 = 0 ∧ b1.length = b1.length) <|
  k b1
noncomputable def slices_Clip_int (b1 : (List Int)) : Option ((List Int)) :=
  slices_Clip_intK b1 some
theorem slices_Clip_int_eq {γ : Type} (b1 : (List Int)) (k : (List Int) → Option γ) : slices_Clip_intK b1 k = (slices_Clip_int b1).bind k := by
  simp only [slices_Clip_intK, slices_Clip_int, cond_bind', chk_bind', nnK_bind', getK_bind', getBK_bind', endK_bind', bind_bind', some_bind', none_bind', sum3K_1, sum3K_2, sum3K_3, sum2K_1, sum2K_2]

/-! loop.example/capkernel/impl.PackTable -/
noncomputable def impl_PackTable_l0K {γ : Type} (a3 : (List DCap)) (a4 : Int) (a5 : Int) (b6 : (List Int)) (kn : (List DCap) × Int × Int × (List Int) × Unit → Option γ) (kx : (List Int) × Unit → Option γ) : Option γ :=
  bif decide (a5 < a4) then
    nnK a5 fun i7 =>
    getK a3 i7 fun v8 =>
    (impl_PackCap (v8.1, v8.2.1, v8.2.2.1, v8.2.2.2.1, ())).bind fun r9 =>
    chk ((b6.length + 1) ≤ bigRow) <|
    kn (a3, a4, (IntKind.wrap .i64 (a5 + (1 : Int))), (b6 ++ [r9]), ())
  else
  kx (b6, ())
noncomputable def impl_PackTable_l0 (x : (List DCap) × Int × Int × (List Int) × Unit) : Option (((List DCap) × Int × Int × (List Int) × Unit) ⊕ ((List Int) × Unit)) :=
  impl_PackTable_l0K x.1 x.2.1 x.2.2.1 x.2.2.2.1 (fun y => some (.inl y)) (fun a => some (.inr a))
theorem impl_PackTable_l0_eq {γ : Type} (a3 : (List DCap)) (a4 : Int) (a5 : Int) (b6 : (List Int)) (kn : (List DCap) × Int × Int × (List Int) × Unit → Option γ) (kx : (List Int) × Unit → Option γ) : impl_PackTable_l0K a3 a4 a5 b6 kn kx = (impl_PackTable_l0 (a3, a4, a5, b6, ())).bind fun r => sum2K r kn kx := by
  simp only [impl_PackTable_l0K, impl_PackTable_l0, cond_bind', chk_bind', nnK_bind', getK_bind', getBK_bind', endK_bind', bind_bind', some_bind', none_bind', sum3K_1, sum3K_2, sum3K_3, sum2K_1, sum2K_2]
noncomputable def impl_PackTableK {γ : Type} (t1 : DTable) (k : (List Int) → Option γ) : Option γ :=
  (impl_TableValid (t1.1, t1.2.1, t1.2.2.1, t1.2.2.2.1, ())).bind fun r2 =>
  bif (!r2) then
    k []
  else
  (loopF impl_PackTable_l0 (t1.2.2.2.1, (t1.2.2.2.1.length : Int), (0 : Int), [(IntKind.wrap .i64 (t1.1 + (IntKind.wrap .i64 ((8 : Int) * (IntKind.wrap .i64 (t1.2.2.1 + (IntKind.wrap .i64 ((8 : Int) * t1.2.1))))))))], ())).bind fun z10 =>
  (slices_Clip_int z10.1).bind fun r11 =>
  k r11
noncomputable def impl_PackTable (t1 : DTable) : Option ((List Int)) :=
  impl_PackTableK t1 some
theorem impl_PackTable_eq {γ : Type} (t1 : DTable) (k : (List Int) → Option γ) : impl_PackTableK t1 k = (impl_PackTable t1).bind k := by
  simp only [impl_PackTableK, impl_PackTable, cond_bind', chk_bind', nnK_bind', getK_bind', getBK_bind', endK_bind', bind_bind', some_bind', none_bind', sum3K_1, sum3K_2, sum3K_3, sum2K_1, sum2K_2]

/-! loop.example/capkernel/laws.eqIntS -/
noncomputable def laws_eqIntS_l0K {γ : Type} (a3 : (List Int)) (b4 : (List Int)) (i5 : Int) (kn : (List Int) × (List Int) × Int × Unit → Option γ) (kx : Unit → Option γ) (kr : Bool × Unit → Option γ) : Option γ :=
  bif decide (i5 < (a3.length : Int)) then
    nnK i5 fun i6 =>
    getK a3 i6 fun v7 =>
    nnK i5 fun i8 =>
    getK b4 i8 fun v9 =>
    bif (v7 != v9) then
      kr (false, ())
    else
    kn (a3, b4, (IntKind.wrap .i64 (i5 + (1 : Int))), ())
  else
  kx ()
noncomputable def laws_eqIntS_l0 (x : (List Int) × (List Int) × Int × Unit) : Option (((List Int) × (List Int) × Int × Unit) ⊕ ((Unit) ⊕ (Bool × Unit))) :=
  laws_eqIntS_l0K x.1 x.2.1 x.2.2.1 (fun y => some (.inl y)) (fun a => some (.inr (.inl a))) (fun b => some (.inr (.inr b)))
theorem laws_eqIntS_l0_eq {γ : Type} (a3 : (List Int)) (b4 : (List Int)) (i5 : Int) (kn : (List Int) × (List Int) × Int × Unit → Option γ) (kx : Unit → Option γ) (kr : Bool × Unit → Option γ) : laws_eqIntS_l0K a3 b4 i5 kn kx kr = (laws_eqIntS_l0 (a3, b4, i5, ())).bind fun r => sum3K r kn kx kr := by
  simp only [laws_eqIntS_l0K, laws_eqIntS_l0, cond_bind', chk_bind', nnK_bind', getK_bind', getBK_bind', endK_bind', bind_bind', some_bind', none_bind', sum3K_1, sum3K_2, sum3K_3, sum2K_1, sum2K_2]
noncomputable def laws_eqIntSK {γ : Type} (a1 : (List Int)) (b2 : (List Int)) (k : Bool → Option γ) : Option γ :=
  bif ((a1.length : Int) != (b2.length : Int)) then
    k false
  else
  (loopF laws_eqIntS_l0 (a1, b2, (0 : Int), ())).bind fun q => endK q (fun z10 =>
    k true) (fun z11 =>
    k z11.1)
noncomputable def laws_eqIntS (a1 : (List Int)) (b2 : (List Int)) : Option (Bool) :=
  laws_eqIntSK a1 b2 some
theorem laws_eqIntS_eq {γ : Type} (a1 : (List Int)) (b2 : (List Int)) (k : Bool → Option γ) : laws_eqIntSK a1 b2 k = (laws_eqIntS a1 b2).bind k := by
  simp only [laws_eqIntSK, laws_eqIntS, cond_bind', chk_bind', nnK_bind', getK_bind', getBK_bind', endK_bind', bind_bind', some_bind', none_bind', sum3K_1, sum3K_2, sum3K_3, sum2K_1, sum2K_2]

/-! loop.example/capkernel/laws.eqCap -/
noncomputable def laws_eqCapK {γ : Type} (a1 : DCap) (b2 : DCap) (k : Bool → Option γ) : Option γ :=
  bif (a1.1 != b2.1) then
    k false
  else
  bif (a1.2.1 != b2.2.1) then
    k false
  else
  bif (a1.2.2.1 != b2.2.2.1) then
    k false
  else
  bif (a1.2.2.2.1 != b2.2.2.2.1) then
    k false
  else
  k true
noncomputable def laws_eqCap (a1 : DCap) (b2 : DCap) : Option (Bool) :=
  laws_eqCapK a1 b2 some
theorem laws_eqCap_eq {γ : Type} (a1 : DCap) (b2 : DCap) (k : Bool → Option γ) : laws_eqCapK a1 b2 k = (laws_eqCap a1 b2).bind k := by
  simp only [laws_eqCapK, laws_eqCap, cond_bind', chk_bind', nnK_bind', getK_bind', getBK_bind', endK_bind', bind_bind', some_bind', none_bind', sum3K_1, sum3K_2, sum3K_3, sum2K_1, sum2K_2]

/-! loop.example/capkernel/laws.eqCapS -/
noncomputable def laws_eqCapS_l0K {γ : Type} (a3 : (List DCap)) (b4 : (List DCap)) (i5 : Int) (kn : (List DCap) × (List DCap) × Int × Unit → Option γ) (kx : Unit → Option γ) (kr : Bool × Unit → Option γ) : Option γ :=
  bif decide (i5 < (a3.length : Int)) then
    nnK i5 fun i6 =>
    getK a3 i6 fun v7 =>
    nnK i5 fun i8 =>
    getK b4 i8 fun v9 =>
    (laws_eqCap v7 v9).bind fun r10 =>
    bif (!r10) then
      kr (false, ())
    else
    kn (a3, b4, (IntKind.wrap .i64 (i5 + (1 : Int))), ())
  else
  kx ()
noncomputable def laws_eqCapS_l0 (x : (List DCap) × (List DCap) × Int × Unit) : Option (((List DCap) × (List DCap) × Int × Unit) ⊕ ((Unit) ⊕ (Bool × Unit))) :=
  laws_eqCapS_l0K x.1 x.2.1 x.2.2.1 (fun y => some (.inl y)) (fun a => some (.inr (.inl a))) (fun b => some (.inr (.inr b)))
theorem laws_eqCapS_l0_eq {γ : Type} (a3 : (List DCap)) (b4 : (List DCap)) (i5 : Int) (kn : (List DCap) × (List DCap) × Int × Unit → Option γ) (kx : Unit → Option γ) (kr : Bool × Unit → Option γ) : laws_eqCapS_l0K a3 b4 i5 kn kx kr = (laws_eqCapS_l0 (a3, b4, i5, ())).bind fun r => sum3K r kn kx kr := by
  simp only [laws_eqCapS_l0K, laws_eqCapS_l0, cond_bind', chk_bind', nnK_bind', getK_bind', getBK_bind', endK_bind', bind_bind', some_bind', none_bind', sum3K_1, sum3K_2, sum3K_3, sum2K_1, sum2K_2]
noncomputable def laws_eqCapSK {γ : Type} (a1 : (List DCap)) (b2 : (List DCap)) (k : Bool → Option γ) : Option γ :=
  bif ((a1.length : Int) != (b2.length : Int)) then
    k false
  else
  (loopF laws_eqCapS_l0 (a1, b2, (0 : Int), ())).bind fun q => endK q (fun z11 =>
    k true) (fun z12 =>
    k z12.1)
noncomputable def laws_eqCapS (a1 : (List DCap)) (b2 : (List DCap)) : Option (Bool) :=
  laws_eqCapSK a1 b2 some
theorem laws_eqCapS_eq {γ : Type} (a1 : (List DCap)) (b2 : (List DCap)) (k : Bool → Option γ) : laws_eqCapSK a1 b2 k = (laws_eqCapS a1 b2).bind k := by
  simp only [laws_eqCapSK, laws_eqCapS, cond_bind', chk_bind', nnK_bind', getK_bind', getBK_bind', endK_bind', bind_bind', some_bind', none_bind', sum3K_1, sum3K_2, sum3K_3, sum2K_1, sum2K_2]

/-! loop.example/capkernel/laws.eqTable -/
noncomputable def laws_eqTableK {γ : Type} (a1 : DTable) (b2 : DTable) (k : Bool → Option γ) : Option γ :=
  bif (a1.1 != b2.1) then
    k false
  else
  bif (a1.2.1 != b2.2.1) then
    k false
  else
  bif (a1.2.2.1 != b2.2.2.1) then
    k false
  else
  (laws_eqCapS a1.2.2.2.1 b2.2.2.2.1).bind fun r3 =>
  bif (!r3) then
    k false
  else
  k true
noncomputable def laws_eqTable (a1 : DTable) (b2 : DTable) : Option (Bool) :=
  laws_eqTableK a1 b2 some
theorem laws_eqTable_eq {γ : Type} (a1 : DTable) (b2 : DTable) (k : Bool → Option γ) : laws_eqTableK a1 b2 k = (laws_eqTable a1 b2).bind k := by
  simp only [laws_eqTableK, laws_eqTable, cond_bind', chk_bind', nnK_bind', getK_bind', getBK_bind', endK_bind', bind_bind', some_bind', none_bind', sum3K_1, sum3K_2, sum3K_3, sum2K_1, sum2K_2]

/-! loop.example/capkernel/laws.markCapS -/
noncomputable def laws_markCapS_l0K {γ : Type} (kq3 : Int) (i4 : Int) (b5 : (List DCap)) (kn : Int × Int × (List DCap) × Unit → Option γ) (kx : Int × (List DCap) × Unit → Option γ) : Option γ :=
  bif decide (i4 < (b5.length : Int)) then
    nnK i4 fun i6 =>
    chk (i6 < b5.length) <|
    getK b5 i6 fun y7 =>
    nnK i4 fun i8 =>
    chk (i8 < (b5.set i6 (kq3, y7.2.1, y7.2.2.1, y7.2.2.2.1, ())).length) <|
    getK (b5.set i6 (kq3, y7.2.1, y7.2.2.1, y7.2.2.2.1, ())) i8 fun y9 =>
    nnK i4 fun i10 =>
    chk (i10 < ((b5.set i6 (kq3, y7.2.1, y7.2.2.1, y7.2.2.2.1, ())).set i8 (y9.1, (IntKind.wrap .i64 (kq3 + (1 : Int))), y9.2.2.1, y9.2.2.2.1, ())).length) <|
    getK ((b5.set i6 (kq3, y7.2.1, y7.2.2.1, y7.2.2.2.1, ())).set i8 (y9.1, (IntKind.wrap .i64 (kq3 + (1 : Int))), y9.2.2.1, y9.2.2.2.1, ())) i10 fun y11 =>
    nnK i4 fun i12 =>
    chk (i12 < (((b5.set i6 (kq3, y7.2.1, y7.2.2.1, y7.2.2.2.1, ())).set i8 (y9.1, (IntKind.wrap .i64 (kq3 + (1 : Int))), y9.2.2.1, y9.2.2.2.1, ())).set i10 (y11.1, y11.2.1, (IntKind.wrap .i64 ((IntKind.wrap .i64 (kq3 + (1 : Int))) + (1 : Int))), y11.2.2.2.1, ())).length) <|
    getK (((b5.set i6 (kq3, y7.2.1, y7.2.2.1, y7.2.2.2.1, ())).set i8 (y9.1, (IntKind.wrap .i64 (kq3 + (1 : Int))), y9.2.2.1, y9.2.2.2.1, ())).set i10 (y11.1, y11.2.1, (IntKind.wrap .i64 ((IntKind.wrap .i64 (kq3 + (1 : Int))) + (1 : Int))), y11.2.2.2.1, ())) i12 fun y13 =>
    kn ((IntKind.wrap .i64 ((IntKind.wrap .i64 ((IntKind.wrap .i64 ((IntKind.wrap .i64 (kq3 + (1 : Int))) + (1 : Int))) + (1 : Int))) + (1 : Int))), (IntKind.wrap .i64 (i4 + (1 : Int))), ((((b5.set i6 (kq3, y7.2.1, y7.2.2.1, y7.2.2.2.1, ())).set i8 (y9.1, (IntKind.wrap .i64 (kq3 + (1 : Int))), y9.2.2.1, y9.2.2.2.1, ())).set i10 (y11.1, y11.2.1, (IntKind.wrap .i64 ((IntKind.wrap .i64 (kq3 + (1 : Int))) + (1 : Int))), y11.2.2.2.1, ())).set i12 (y13.1, y13.2.1, y13.2.2.1, (IntKind.wrap .i64 ((IntKind.wrap .i64 ((IntKind.wrap .i64 (kq3 + (1 : Int))) + (1 : Int))) + (1 : Int))), ())), ())
  else
  kx (kq3, b5, ())
noncomputable def laws_markCapS_l0 (x : Int × Int × (List DCap) × Unit) : Option ((Int × Int × (List DCap) × Unit) ⊕ (Int × (List DCap) × Unit)) :=
  laws_markCapS_l0K x.1 x.2.1 x.2.2.1 (fun y => some (.inl y)) (fun a => some (.inr a))
theorem laws_markCapS_l0_eq {γ : Type} (kq3 : Int) (i4 : Int) (b5 : (List DCap)) (kn : Int × Int × (List DCap) × Unit → Option γ) (kx : Int × (List DCap) × Unit → Option γ) : laws_markCapS_l0K kq3 i4 b5 kn kx = (laws_markCapS_l0 (kq3, i4, b5, ())).bind fun r => sum2K r kn kx := by
  simp only [laws_markCapS_l0K, laws_markCapS_l0, cond_bind', chk_bind', nnK_bind', getK_bind', getBK_bind', endK_bind', bind_bind', some_bind', none_bind', sum3K_1, sum3K_2, sum3K_3, sum2K_1, sum2K_2]
noncomputable def laws_markCapSK {γ : Type} (kq1 : Int) (b2 : (List DCap)) (k : Int × (List DCap) → Option γ) : Option γ :=
  (loopF laws_markCapS_l0 (kq1, (0 : Int), b2, ())).bind fun z14 =>
  k (z14.1, z14.2.1)
noncomputable def laws_markCapS (kq1 : Int) (b2 : (List DCap)) : Option (Int × (List DCap)) :=
  laws_markCapSK kq1 b2 some
theorem laws_markCapS_eq {γ : Type} (kq1 : Int) (b2 : (List DCap)) (k : Int × (List DCap) → Option γ) : laws_markCapSK kq1 b2 k = (laws_markCapS kq1 b2).bind k := by
  simp only [laws_markCapSK, laws_markCapS, cond_bind', chk_bind', nnK_bind', getK_bind', getBK_bind', endK_bind', bind_bind', some_bind', none_bind', sum3K_1, sum3K_2, sum3K_3, sum2K_1, sum2K_2]

/-! loop.example/capkernel/laws.markTable -/
noncomputable def laws_markTableK {γ : Type} (a1 : Int) (a2 : Int) (a3 : Int) (kq4 : Int) (b5 : (List DCap)) (k : Int × (List DCap) → Option γ) : Option γ :=
  (laws_markCapS kq4 b5).bind fun r6 =>
  k (r6.1, r6.2)
noncomputable def laws_markTable (a1 : Int) (a2 : Int) (a3 : Int) (kq4 : Int) (b5 : (List DCap)) : Option (Int × (List DCap)) :=
  laws_markTableK a1 a2 a3 kq4 b5 some
theorem laws_markTable_eq {γ : Type} (a1 : Int) (a2 : Int) (a3 : Int) (kq4 : Int) (b5 : (List DCap)) (k : Int × (List DCap) → Option γ) : laws_markTableK a1 a2 a3 kq4 b5 k = (laws_markTable a1 a2 a3 kq4 b5).bind k := by
  simp only [laws_markTableK, laws_markTable, cond_bind', chk_bind', nnK_bind', getK_bind', getBK_bind', endK_bind', bind_bind', some_bind', none_bind', sum3K_1, sum3K_2, sum3K_3, sum2K_1, sum2K_2]

/-! loop.example/capkernel/laws.markIntS -/
noncomputable def laws_markIntS_l0K {γ : Type} (kq3 : Int) (i4 : Int) (b5 : (List Int)) (kn : Int × Int × (List Int) × Unit → Option γ) (kx : Int × (List Int) × Unit → Option γ) : Option γ :=
  bif decide (i4 < (b5.length : Int)) then
    nnK i4 fun i6 =>
    chk (i6 < b5.length) <|
    getK b5 i6 fun y7 =>
    kn ((IntKind.wrap .i64 (kq3 + (1 : Int))), (IntKind.wrap .i64 (i4 + (1 : Int))), (b5.set i6 kq3), ())
  else
  kx (kq3, b5, ())
noncomputable def laws_markIntS_l0 (x : Int × Int × (List Int) × Unit) : Option ((Int × Int × (List Int) × Unit) ⊕ (Int × (List Int) × Unit)) :=
  laws_markIntS_l0K x.1 x.2.1 x.2.2.1 (fun y => some (.inl y)) (fun a => some (.inr a))
theorem laws_markIntS_l0_eq {γ : Type} (kq3 : Int) (i4 : Int) (b5 : (List Int)) (kn : Int × Int × (List Int) × Unit → Option γ) (kx : Int × (List Int) × Unit → Option γ) : laws_markIntS_l0K kq3 i4 b5 kn kx = (laws_markIntS_l0 (kq3, i4, b5, ())).bind fun r => sum2K r kn kx := by
  simp only [laws_markIntS_l0K, laws_markIntS_l0, cond_bind', chk_bind', nnK_bind', getK_bind', getBK_bind', endK_bind', bind_bind', some_bind', none_bind', sum3K_1, sum3K_2, sum3K_3, sum2K_1, sum2K_2]
noncomputable def laws_markIntSK {γ : Type} (kq1 : Int) (b2 : (List Int)) (k : Int × (List Int) → Option γ) : Option γ :=
  (loopF laws_markIntS_l0 (kq1, (0 : Int), b2, ())).bind fun z8 =>
  k (z8.1, z8.2.1)
noncomputable def laws_markIntS (kq1 : Int) (b2 : (List Int)) : Option (Int × (List Int)) :=
  laws_markIntSK kq1 b2 some
theorem laws_markIntS_eq {γ : Type} (kq1 : Int) (b2 : (List Int)) (k : Int × (List Int) → Option γ) : laws_markIntSK kq1 b2 k = (laws_markIntS kq1 b2).bind k := by
  simp only [laws_markIntSK, laws_markIntS, cond_bind', chk_bind', nnK_bind', getK_bind', getBK_bind', endK_bind', bind_bind', some_bind', none_bind', sum3K_1, sum3K_2, sum3K_3, sum2K_1, sum2K_2]

/-! loop.example/capkernel/laws.heldIntS -/
noncomputable def laws_heldIntS_l0K {γ : Type} (a3 : (List Int)) (kq4 : Int) (i5 : Int) (kn : (List Int) × Int × Int × Unit → Option γ) (kx : Int × Unit → Option γ) (kr : Int × Unit → Option γ) : Option γ :=
  bif decide (i5 < (a3.length : Int)) then
    nnK i5 fun i6 =>
    getK a3 i6 fun v7 =>
    bif (v7 != kq4) then
      kr ((-1 : Int), ())
    else
    kn (a3, (IntKind.wrap .i64 (kq4 + (1 : Int))), (IntKind.wrap .i64 (i5 + (1 : Int))), ())
  else
  kx (kq4, ())
noncomputable def laws_heldIntS_l0 (x : (List Int) × Int × Int × Unit) : Option (((List Int) × Int × Int × Unit) ⊕ ((Int × Unit) ⊕ (Int × Unit))) :=
  laws_heldIntS_l0K x.1 x.2.1 x.2.2.1 (fun y => some (.inl y)) (fun a => some (.inr (.inl a))) (fun b => some (.inr (.inr b)))
theorem laws_heldIntS_l0_eq {γ : Type} (a3 : (List Int)) (kq4 : Int) (i5 : Int) (kn : (List Int) × Int × Int × Unit → Option γ) (kx : Int × Unit → Option γ) (kr : Int × Unit → Option γ) : laws_heldIntS_l0K a3 kq4 i5 kn kx kr = (laws_heldIntS_l0 (a3, kq4, i5, ())).bind fun r => sum3K r kn kx kr := by
  simp only [laws_heldIntS_l0K, laws_heldIntS_l0, cond_bind', chk_bind', nnK_bind', getK_bind', getBK_bind', endK_bind', bind_bind', some_bind', none_bind', sum3K_1, sum3K_2, sum3K_3, sum2K_1, sum2K_2]
noncomputable def laws_heldIntSK {γ : Type} (a1 : (List Int)) (kq2 : Int) (k : Int → Option γ) : Option γ :=
  (loopF laws_heldIntS_l0 (a1, kq2, (0 : Int), ())).bind fun q => endK q (fun z8 =>
    k z8.1) (fun z9 =>
    k z9.1)
noncomputable def laws_heldIntS (a1 : (List Int)) (kq2 : Int) : Option (Int) :=
  laws_heldIntSK a1 kq2 some
theorem laws_heldIntS_eq {γ : Type} (a1 : (List Int)) (kq2 : Int) (k : Int → Option γ) : laws_heldIntSK a1 kq2 k = (laws_heldIntS a1 kq2).bind k := by
  simp only [laws_heldIntSK, laws_heldIntS, cond_bind', chk_bind', nnK_bind', getK_bind', getBK_bind', endK_bind', bind_bind', some_bind', none_bind', sum3K_1, sum3K_2, sum3K_3, sum2K_1, sum2K_2]

/-! loop.example/capkernel/laws.FnExactPackTable -/
noncomputable def laws_FnExactPackTableK {γ : Type} (aT1 : DTable) (k : Bool → Option γ) : Option γ :=
  (laws_szTable (aT1.1, aT1.2.1, aT1.2.2.1, aT1.2.2.2.1, ()) (1048576 : Int)).bind fun r2 =>
  bif decide (r2 < (0 : Int)) then
    k true
  else
  (laws_toTable (aT1.1, aT1.2.1, aT1.2.2.1, aT1.2.2.2.1, ())).bind fun r3 =>
  (spec_PackTable (r3.1, r3.2.1, r3.2.2.1, r3.2.2.2, ())).bind fun r4 =>
  (laws_toTable (aT1.1, aT1.2.1, aT1.2.2.1, aT1.2.2.2.1, ())).bind fun r5 =>
  (impl_PackTable (r5.1, r5.2.1, r5.2.2.1, r5.2.2.2, ())).bind fun r6 =>
  (laws_eqIntS r6 r4).bind fun r7 =>
  bif (!r7) then
    k false
  else
  (laws_toTable (aT1.1, aT1.2.1, aT1.2.2.1, aT1.2.2.2.1, ())).bind fun r8 =>
  (laws_eqTable (r5.1, r5.2.1, r5.2.2.1, r5.2.2.2, ()) (r8.1, r8.2.1, r8.2.2.1, r8.2.2.2, ())).bind fun r9 =>
  bif (!r9) then
    k false
  else
  (laws_markTable r5.1 r5.2.1 r5.2.2.1 (1 : Int) r5.2.2.2).bind fun r10 =>
  bif (!decide (r10.1 < (0 : Int))) then
    (laws_eqIntS r6 r4).bind fun r11 =>
    bif (!r11) then
      k false
    else
    (laws_markIntS (1 : Int) r6).bind fun r12 =>
    (laws_heldIntS r12.2 (1 : Int)).bind fun r13 =>
    bif decide (r13 < (0 : Int)) then
      k false
    else
    bif (r13 != r12.1) then
      k false
    else
    (laws_toTable (aT1.1, aT1.2.1, aT1.2.2.1, aT1.2.2.2.1, ())).bind fun r14 =>
    (impl_PackTable (r14.1, r14.2.1, r14.2.2.1, r14.2.2.2, ())).bind fun r15 =>
    (laws_eqIntS r15 r4).bind fun r16 =>
    bif (!r16) then
      k false
    else
    (laws_heldIntS r12.2 (1 : Int)).bind fun r17 =>
    bif decide (r17 < (0 : Int)) then
      k false
    else
    bif (r17 != r12.1) then
      k false
    else
    k true
  else
  k false
noncomputable def laws_FnExactPackTable (aT1 : DTable) : Option (Bool) :=
  laws_FnExactPackTableK aT1 some
theorem laws_FnExactPackTable_eq {γ : Type} (aT1 : DTable) (k : Bool → Option γ) : laws_FnExactPackTableK aT1 k = (laws_FnExactPackTable aT1).bind k := by
  simp only [laws_FnExactPackTableK, laws_FnExactPackTable, cond_bind', chk_bind', nnK_bind', getK_bind', getBK_bind', endK_bind', bind_bind', some_bind', none_bind', sum3K_1, sum3K_2, sum3K_3, sum2K_1, sum2K_2]

/-! loop.example/capkernel/laws.toIntS -/
noncomputable def laws_toIntS_l0K {γ : Type} (a2 : (List Int)) (i3 : Int) (b4 : (List Int)) (kn : (List Int) × Int × (List Int) × Unit → Option γ) (kx : (List Int) × Unit → Option γ) : Option γ :=
  bif decide (i3 < (a2.length : Int)) then
    nnK i3 fun i5 =>
    getK a2 i5 fun v6 =>
    nnK i3 fun i7 =>
    chk (i7 < b4.length) <|
    getK b4 i7 fun y8 =>
    kn (a2, (IntKind.wrap .i64 (i3 + (1 : Int))), (b4.set i7 v6), ())
  else
  kx (b4, ())
noncomputable def laws_toIntS_l0 (x : (List Int) × Int × (List Int) × Unit) : Option (((List Int) × Int × (List Int) × Unit) ⊕ ((List Int) × Unit)) :=
  laws_toIntS_l0K x.1 x.2.1 x.2.2.1 (fun y => some (.inl y)) (fun a => some (.inr a))
theorem laws_toIntS_l0_eq {γ : Type} (a2 : (List Int)) (i3 : Int) (b4 : (List Int)) (kn : (List Int) × Int × (List Int) × Unit → Option γ) (kx : (List Int) × Unit → Option γ) : laws_toIntS_l0K a2 i3 b4 kn kx = (laws_toIntS_l0 (a2, i3, b4, ())).bind fun r => sum2K r kn kx := by
  simp only [laws_toIntS_l0K, laws_toIntS_l0, cond_bind', chk_bind', nnK_bind', getK_bind', getBK_bind', endK_bind', bind_bind', some_bind', none_bind', sum3K_1, sum3K_2, sum3K_3, sum2K_1, sum2K_2]
noncomputable def laws_toIntSK {γ : Type} (a1 : (List Int)) (k : (List Int) → Option γ) : Option γ :=
  chk (a1.length ≤ bigRow) <|
  (loopF laws_toIntS_l0 (a1, (0 : Int), (List.replicate a1.length (0 : Int)), ())).bind fun z9 =>
  k z9.1
noncomputable def laws_toIntS (a1 : (List Int)) : Option ((List Int)) :=
  laws_toIntSK a1 some
theorem laws_toIntS_eq {γ : Type} (a1 : (List Int)) (k : (List Int) → Option γ) : laws_toIntSK a1 k = (laws_toIntS a1).bind k := by
  simp only [laws_toIntSK, laws_toIntS, cond_bind', chk_bind', nnK_bind', getK_bind', getBK_bind', endK_bind', bind_bind', some_bind', none_bind', sum3K_1, sum3K_2, sum3K_3, sum2K_1, sum2K_2]

/-! loop.example/capkernel/spec.UnpackCap -/
noncomputable def spec_UnpackCapK {γ : Type} (n1 : Int) (k : DCap × Bool → Option γ) : Option γ :=
  bif decide (n1 < (0 : Int)) then
    k (((0 : Int), (0 : Int), (0 : Int), (0 : Int), ()), false)
  else
  (spec_CapValid ((Int.tmod n1 (8 : Int)), (Int.tmod (IntKind.wrap .i64 (Int.tdiv n1 (8 : Int))) (100 : Int)), (Int.tmod (IntKind.wrap .i64 (Int.tdiv n1 (800 : Int))) (16 : Int)), (IntKind.wrap .i64 (Int.tdiv n1 (12800 : Int))), ())).bind fun r2 =>
  bif (!r2) then
    k (((0 : Int), (0 : Int), (0 : Int), (0 : Int), ()), false)
  else
  k (((Int.tmod n1 (8 : Int)), (Int.tmod (IntKind.wrap .i64 (Int.tdiv n1 (8 : Int))) (100 : Int)), (Int.tmod (IntKind.wrap .i64 (Int.tdiv n1 (800 : Int))) (16 : Int)), (IntKind.wrap .i64 (Int.tdiv n1 (12800 : Int))), ()), true)
noncomputable def spec_UnpackCap (n1 : Int) : Option (DCap × Bool) :=
  spec_UnpackCapK n1 some
theorem spec_UnpackCap_eq {γ : Type} (n1 : Int) (k : DCap × Bool → Option γ) : spec_UnpackCapK n1 k = (spec_UnpackCap n1).bind k := by
  simp only [spec_UnpackCapK, spec_UnpackCap, cond_bind', chk_bind', nnK_bind', getK_bind', getBK_bind', endK_bind', bind_bind', some_bind', none_bind', sum3K_1, sum3K_2, sum3K_3, sum2K_1, sum2K_2]

/-! loop.example/capkernel/spec.UnpackTable -/
noncomputable def spec_UnpackTable_l0K {γ : Type} (list6 : (List Int)) (kq7 : Int) (b8 : Int) (b9 : Int) (b10 : Int) (b11 : Int) (b12 : Int) (b13 : Int) (b14 : (List DCap)) (b15 : (List DCap)) (kn : (List Int) × Int × Int × Int × Int × Int × Int × Int × (List DCap) × (List DCap) × Unit → Option γ) (kx : Int × Int × Int × Int × Int × Int × (List DCap) × (List DCap) × Unit → Option γ) (kr : Bool × Int × Int × Int × (List DCap) × Unit → Option γ) : Option γ :=
  bif decide (kq7 < (list6.length : Int)) then
    nnK kq7 fun i16 =>
    getK list6 i16 fun v17 =>
    (spec_UnpackCap v17).bind fun r18 =>
    bif (!r18.2) then
      kr (false, (0 : Int), (0 : Int), (0 : Int), [], ())
    else
    chk ((b15.length + 1) ≤ bigRow) <|
    kn (list6, (IntKind.wrap .i64 (kq7 + (1 : Int))), b8, b9, b10, b11, b12, b13, b14, (b15 ++ [(r18.1.1, r18.1.2.1, r18.1.2.2.1, r18.1.2.2.2.1, ())]), ())
  else
  kx (b8, b9, b10, b11, b12, b13, b14, b15, ())
noncomputable def spec_UnpackTable_l0 (x : (List Int) × Int × Int × Int × Int × Int × Int × Int × (List DCap) × (List DCap) × Unit) : Option (((List Int) × Int × Int × Int × Int × Int × Int × Int × (List DCap) × (List DCap) × Unit) ⊕ ((Int × Int × Int × Int × Int × Int × (List DCap) × (List DCap) × Unit) ⊕ (Bool × Int × Int × Int × (List DCap) × Unit))) :=
  spec_UnpackTable_l0K x.1 x.2.1 x.2.2.1 x.2.2.2.1 x.2.2.2.2.1 x.2.2.2.2.2.1 x.2.2.2.2.2.2.1 x.2.2.2.2.2.2.2.1 x.2.2.2.2.2.2.2.2.1 x.2.2.2.2.2.2.2.2.2.1 (fun y => some (.inl y)) (fun a => some (.inr (.inl a))) (fun b => some (.inr (.inr b)))
theorem spec_UnpackTable_l0_eq {γ : Type} (list6 : (List Int)) (kq7 : Int) (b8 : Int) (b9 : Int) (b10 : Int) (b11 : Int) (b12 : Int) (b13 : Int) (b14 : (List DCap)) (b15 : (List DCap)) (kn : (List Int) × Int × Int × Int × Int × Int × Int × Int × (List DCap) × (List DCap) × Unit → Option γ) (kx : Int × Int × Int × Int × Int × Int × (List DCap) × (List DCap) × Unit → Option γ) (kr : Bool × Int × Int × Int × (List DCap) × Unit → Option γ) : spec_UnpackTable_l0K list6 kq7 b8 b9 b10 b11 b12 b13 b14 b15 kn kx kr = (spec_UnpackTable_l0 (list6, kq7, b8, b9, b10, b11, b12, b13, b14, b15, ())).bind fun r => sum3K r kn kx kr := by
  simp only [spec_UnpackTable_l0K, spec_UnpackTable_l0, cond_bind', chk_bind', nnK_bind', getK_bind', getBK_bind', endK_bind', bind_bind', some_bind', none_bind', sum3K_1, sum3K_2, sum3K_3, sum2K_1, sum2K_2]
noncomputable def spec_UnpackTableK {γ : Type} (list1 : (List Int)) (k : Int × Int × Int × Bool × (List DCap) → Option γ) : Option γ :=
  bif (!((list1.length : Int) == (0 : Int))) then
    getK list1 0 fun v2 =>
    bif decide (v2 < (0 : Int)) then
      k ((0 : Int), (0 : Int), (0 : Int), false, [])
    else
    getK list1 0 fun v3 =>
    getK list1 0 fun v4 =>
    getK list1 0 fun v5 =>
    (loopF spec_UnpackTable_l0 (list1, (1 : Int), (0 : Int), (0 : Int), (0 : Int), (Int.tmod v3 (8 : Int)), (IntKind.wrap .i64 (Int.tdiv v5 (64 : Int))), (Int.tmod (IntKind.wrap .i64 (Int.tdiv v4 (8 : Int))) (8 : Int)), [], [], ())).bind fun q => endK q (fun z19 =>
      (spec_TableValid (z19.2.2.2.1, z19.2.2.2.2.1, z19.2.2.2.2.2.1, z19.2.2.2.2.2.2.2.1, ())).bind fun r21 =>
      bif (!r21) then
        k ((0 : Int), (0 : Int), (0 : Int), false, [])
      else
      k (z19.2.2.2.1, z19.2.2.2.2.1, z19.2.2.2.2.2.1, true, z19.2.2.2.2.2.2.2.1)) (fun z20 =>
      k (z20.2.1, z20.2.2.1, z20.2.2.2.1, z20.1, z20.2.2.2.2.1))
  else
  k ((0 : Int), (0 : Int), (0 : Int), false, [])
noncomputable def spec_UnpackTable (list1 : (List Int)) : Option (Int × Int × Int × Bool × (List DCap)) :=
  spec_UnpackTableK list1 some
theorem spec_UnpackTable_eq {γ : Type} (list1 : (List Int)) (k : Int × Int × Int × Bool × (List DCap) → Option γ) : spec_UnpackTableK list1 k = (spec_UnpackTable list1).bind k := by
  simp only [spec_UnpackTableK, spec_UnpackTable, cond_bind', chk_bind', nnK_bind', getK_bind', getBK_bind', endK_bind', bind_bind', some_bind', none_bind', sum3K_1, sum3K_2, sum3K_3, sum2K_1, sum2K_2]

/-! loop.example/capkernel/impl.UnpackCap -/
noncomputable def impl_UnpackCapK {γ : Type} (n1 : Int) (k : DCap × Bool → Option γ) : Option γ :=
  bif decide (n1 < (0 : Int)) then
    k (((0 : Int), (0 : Int), (0 : Int), (0 : Int), ()), false)
  else
  (impl_PackCap ((Int.tmod n1 (8 : Int)), (Int.tmod (IntKind.wrap .i64 (Int.tdiv n1 (8 : Int))) (100 : Int)), (Int.tmod (IntKind.wrap .i64 (Int.tdiv n1 (800 : Int))) (16 : Int)), (IntKind.wrap .i64 (Int.tdiv n1 (12800 : Int))), ())).bind fun r2 =>
  bif (r2 != n1) then
    k (((0 : Int), (0 : Int), (0 : Int), (0 : Int), ()), false)
  else
  k (((Int.tmod n1 (8 : Int)), (Int.tmod (IntKind.wrap .i64 (Int.tdiv n1 (8 : Int))) (100 : Int)), (Int.tmod (IntKind.wrap .i64 (Int.tdiv n1 (800 : Int))) (16 : Int)), (IntKind.wrap .i64 (Int.tdiv n1 (12800 : Int))), ()), true)
noncomputable def impl_UnpackCap (n1 : Int) : Option (DCap × Bool) :=
  impl_UnpackCapK n1 some
theorem impl_UnpackCap_eq {γ : Type} (n1 : Int) (k : DCap × Bool → Option γ) : impl_UnpackCapK n1 k = (impl_UnpackCap n1).bind k := by
  simp only [impl_UnpackCapK, impl_UnpackCap, cond_bind', chk_bind', nnK_bind', getK_bind', getBK_bind', endK_bind', bind_bind', some_bind', none_bind', sum3K_1, sum3K_2, sum3K_3, sum2K_1, sum2K_2]

/-! slices.Clone(()loop.example/capkernel/impl.Cap,loop.example/capkernel/impl.Cap) -/
noncomputable def slices_Clone_CapR {γ : Type} (sq1 : (List DCap)) (k : (List DCap) → Option γ) : Option γ :=
  bif sq1.isEmpty then both
    (k [])
    (chk (sq1.length ≤ bigRow) <|
    k sq1)
  else
  chk (sq1.length ≤ bigRow) <|
  k sq1
noncomputable def slices_Clone_CapK {γ : Type} (sq1 : (List DCap)) (k : (List DCap) → Option γ) : Option γ :=
  chk (sq1.length ≤ bigRow) (k sq1)
theorem slices_Clone_Cap_raw {γ : Type} (sq1 : (List DCap)) (k : (List DCap) → Option γ) : slices_Clone_CapR sq1 k = slices_Clone_CapK sq1 k := by
  cases sq1 with
  | nil => simp [slices_Clone_CapR, slices_Clone_CapK, both, chk, bigRow]
  | cons a r => simp [slices_Clone_CapR, slices_Clone_CapK, chk]
noncomputable def slices_Clone_Cap (sq1 : (List DCap)) : Option ((List DCap)) :=
  slices_Clone_CapK sq1 some
theorem slices_Clone_Cap_eq {γ : Type} (sq1 : (List DCap)) (k : (List DCap) → Option γ) : slices_Clone_CapK sq1 k = (slices_Clone_Cap sq1).bind k := by
  simp only [slices_Clone_CapK, slices_Clone_Cap, cond_bind', chk_bind', nnK_bind', getK_bind', getBK_bind', endK_bind', bind_bind', some_bind', none_bind', sum3K_1, sum3K_2, sum3K_3, sum2K_1, sum2K_2]

/-! slices.Clip(()loop.example/capkernel/impl.Cap,loop.example/capkernel/impl.Cap) -/
noncomputable def slices_Clip_CapK {γ : Type} (b1 : (List DCap)) (k : (List DCap) → Option γ) : Option γ :=
  chk (0 ≤ b1.length ∧ b1.length ≤ b1.length ∧ b1.length ≤ b1.length) <|
  chk (0 = 0 ∧ b1.length = b1.length) <|
  k b1
noncomputable def slices_Clip_Cap (b1 : (List DCap)) : Option ((List DCap)) :=
  slices_Clip_CapK b1 some
theorem slices_Clip_Cap_eq {γ : Type} (b1 : (List DCap)) (k : (List DCap) → Option γ) : slices_Clip_CapK b1 k = (slices_Clip_Cap b1).bind k := by
  simp only [slices_Clip_CapK, slices_Clip_Cap, cond_bind', chk_bind', nnK_bind', getK_bind', getBK_bind', endK_bind', bind_bind', some_bind', none_bind', sum3K_1, sum3K_2, sum3K_3, sum2K_1, sum2K_2]

/-! loop.example/capkernel/impl.clone(loop.example/capkernel/impl.Cap) -/
noncomputable def impl_clone_CapK {γ : Type} (list1 : (List DCap)) (k : (List DCap) → Option γ) : Option γ :=
  (slices_Clone_Cap list1).bind fun r2 =>
  (slices_Clip_Cap r2).bind fun r3 =>
  k r3
noncomputable def impl_clone_Cap (list1 : (List DCap)) : Option ((List DCap)) :=
  impl_clone_CapK list1 some
theorem impl_clone_Cap_eq {γ : Type} (list1 : (List DCap)) (k : (List DCap) → Option γ) : impl_clone_CapK list1 k = (impl_clone_Cap list1).bind k := by
  simp only [impl_clone_CapK, impl_clone_Cap, cond_bind', chk_bind', nnK_bind', getK_bind', getBK_bind', endK_bind', bind_bind', some_bind', none_bind', sum3K_1, sum3K_2, sum3K_3, sum2K_1, sum2K_2]

/-! loop.example/capkernel/impl.UnpackTable -/
noncomputable def impl_UnpackTable_l0K {γ : Type} (a6 : (List Int)) (a7 : Int) (a8 : Int) (b9 : Int) (b10 : Int) (b11 : Int) (b12 : Int) (b13 : Int) (b14 : Int) (b15 : (List DCap)) (b16 : (List DCap)) (kn : (List Int) × Int × Int × Int × Int × Int × Int × Int × Int × (List DCap) × (List DCap) × Unit → Option γ) (kx : Int × Int × Int × Int × Int × Int × (List DCap) × (List DCap) × Unit → Option γ) (kr : Bool × Int × Int × Int × (List DCap) × Unit → Option γ) : Option γ :=
  bif decide (a8 < a7) then
    nnK a8 fun i17 =>
    getK a6 i17 fun v18 =>
    (impl_UnpackCap v18).bind fun r19 =>
    bif (!r19.2) then
      kr (false, (0 : Int), (0 : Int), (0 : Int), [], ())
    else
    chk ((b16.length + 1) ≤ bigRow) <|
    kn (a6, a7, (IntKind.wrap .i64 (a8 + (1 : Int))), b9, b10, b11, b12, b13, b14, b15, (b16 ++ [(r19.1.1, r19.1.2.1, r19.1.2.2.1, r19.1.2.2.2.1, ())]), ())
  else
  kx (b9, b10, b11, b12, b13, b14, b15, b16, ())
noncomputable def impl_UnpackTable_l0 (x : (List Int) × Int × Int × Int × Int × Int × Int × Int × Int × (List DCap) × (List DCap) × Unit) : Option (((List Int) × Int × Int × Int × Int × Int × Int × Int × Int × (List DCap) × (List DCap) × Unit) ⊕ ((Int × Int × Int × Int × Int × Int × (List DCap) × (List DCap) × Unit) ⊕ (Bool × Int × Int × Int × (List DCap) × Unit))) :=
  impl_UnpackTable_l0K x.1 x.2.1 x.2.2.1 x.2.2.2.1 x.2.2.2.2.1 x.2.2.2.2.2.1 x.2.2.2.2.2.2.1 x.2.2.2.2.2.2.2.1 x.2.2.2.2.2.2.2.2.1 x.2.2.2.2.2.2.2.2.2.1 x.2.2.2.2.2.2.2.2.2.2.1 (fun y => some (.inl y)) (fun a => some (.inr (.inl a))) (fun b => some (.inr (.inr b)))
theorem impl_UnpackTable_l0_eq {γ : Type} (a6 : (List Int)) (a7 : Int) (a8 : Int) (b9 : Int) (b10 : Int) (b11 : Int) (b12 : Int) (b13 : Int) (b14 : Int) (b15 : (List DCap)) (b16 : (List DCap)) (kn : (List Int) × Int × Int × Int × Int × Int × Int × Int × Int × (List DCap) × (List DCap) × Unit → Option γ) (kx : Int × Int × Int × Int × Int × Int × (List DCap) × (List DCap) × Unit → Option γ) (kr : Bool × Int × Int × Int × (List DCap) × Unit → Option γ) : impl_UnpackTable_l0K a6 a7 a8 b9 b10 b11 b12 b13 b14 b15 b16 kn kx kr = (impl_UnpackTable_l0 (a6, a7, a8, b9, b10, b11, b12, b13, b14, b15, b16, ())).bind fun r => sum3K r kn kx kr := by
  simp only [impl_UnpackTable_l0K, impl_UnpackTable_l0, cond_bind', chk_bind', nnK_bind', getK_bind', getBK_bind', endK_bind', bind_bind', some_bind', none_bind', sum3K_1, sum3K_2, sum3K_3, sum2K_1, sum2K_2]
noncomputable def impl_UnpackTableK {γ : Type} (list1 : (List Int)) (k : Int × Int × Int × Bool × (List DCap) → Option γ) : Option γ :=
  bif (!((list1.length : Int) == (0 : Int))) then
    getK list1 0 fun v2 =>
    bif decide (v2 < (0 : Int)) then
      k ((0 : Int), (0 : Int), (0 : Int), false, [])
    else
    getK list1 0 fun v3 =>
    getK list1 0 fun v4 =>
    getK list1 0 fun v5 =>
    chk (1 ≤ list1.length) <|
    (loopF impl_UnpackTable_l0 ((list1.drop 1), ((list1.drop 1).length : Int), (0 : Int), (0 : Int), (0 : Int), (0 : Int), (Int.tmod v3 (8 : Int)), (IntKind.wrap .i64 (Int.tdiv v5 (64 : Int))), (Int.tmod (IntKind.wrap .i64 (Int.tdiv v4 (8 : Int))) (8 : Int)), [], [], ())).bind fun q => endK q (fun z20 =>
      (impl_clone_Cap z20.2.2.2.2.2.2.2.1).bind fun r22 =>
      (impl_TableValid (z20.2.2.2.1, z20.2.2.2.2.1, z20.2.2.2.2.2.1, r22, ())).bind fun r23 =>
      bif (!r23) then
        k ((0 : Int), (0 : Int), (0 : Int), false, [])
      else
      k (z20.2.2.2.1, z20.2.2.2.2.1, z20.2.2.2.2.2.1, true, r22)) (fun z21 =>
      k (z21.2.1, z21.2.2.1, z21.2.2.2.1, z21.1, z21.2.2.2.2.1))
  else
  k ((0 : Int), (0 : Int), (0 : Int), false, [])
noncomputable def impl_UnpackTable (list1 : (List Int)) : Option (Int × Int × Int × Bool × (List DCap)) :=
  impl_UnpackTableK list1 some
theorem impl_UnpackTable_eq {γ : Type} (list1 : (List Int)) (k : Int × Int × Int × Bool × (List DCap) → Option γ) : impl_UnpackTableK list1 k = (impl_UnpackTable list1).bind k := by
  simp only [impl_UnpackTableK, impl_UnpackTable, cond_bind', chk_bind', nnK_bind', getK_bind', getBK_bind', endK_bind', bind_bind', some_bind', none_bind', sum3K_1, sum3K_2, sum3K_3, sum2K_1, sum2K_2]

/-! loop.example/capkernel/laws.heldCapS -/
noncomputable def laws_heldCapS_l0K {γ : Type} (a3 : (List DCap)) (kq4 : Int) (i5 : Int) (kn : (List DCap) × Int × Int × Unit → Option γ) (kx : Int × Unit → Option γ) (kr : Int × Unit → Option γ) : Option γ :=
  bif decide (i5 < (a3.length : Int)) then
    nnK i5 fun i6 =>
    getK a3 i6 fun v7 =>
    bif (v7.1 != kq4) then
      kr ((-1 : Int), ())
    else
    nnK i5 fun i8 =>
    getK a3 i8 fun v9 =>
    bif (v9.2.1 != (IntKind.wrap .i64 (kq4 + (1 : Int)))) then
      kr ((-1 : Int), ())
    else
    nnK i5 fun i10 =>
    getK a3 i10 fun v11 =>
    bif (v11.2.2.1 != (IntKind.wrap .i64 ((IntKind.wrap .i64 (kq4 + (1 : Int))) + (1 : Int)))) then
      kr ((-1 : Int), ())
    else
    nnK i5 fun i12 =>
    getK a3 i12 fun v13 =>
    bif (v13.2.2.2.1 != (IntKind.wrap .i64 ((IntKind.wrap .i64 ((IntKind.wrap .i64 (kq4 + (1 : Int))) + (1 : Int))) + (1 : Int)))) then
      kr ((-1 : Int), ())
    else
    kn (a3, (IntKind.wrap .i64 ((IntKind.wrap .i64 ((IntKind.wrap .i64 ((IntKind.wrap .i64 (kq4 + (1 : Int))) + (1 : Int))) + (1 : Int))) + (1 : Int))), (IntKind.wrap .i64 (i5 + (1 : Int))), ())
  else
  kx (kq4, ())
noncomputable def laws_heldCapS_l0 (x : (List DCap) × Int × Int × Unit) : Option (((List DCap) × Int × Int × Unit) ⊕ ((Int × Unit) ⊕ (Int × Unit))) :=
  laws_heldCapS_l0K x.1 x.2.1 x.2.2.1 (fun y => some (.inl y)) (fun a => some (.inr (.inl a))) (fun b => some (.inr (.inr b)))
theorem laws_heldCapS_l0_eq {γ : Type} (a3 : (List DCap)) (kq4 : Int) (i5 : Int) (kn : (List DCap) × Int × Int × Unit → Option γ) (kx : Int × Unit → Option γ) (kr : Int × Unit → Option γ) : laws_heldCapS_l0K a3 kq4 i5 kn kx kr = (laws_heldCapS_l0 (a3, kq4, i5, ())).bind fun r => sum3K r kn kx kr := by
  simp only [laws_heldCapS_l0K, laws_heldCapS_l0, cond_bind', chk_bind', nnK_bind', getK_bind', getBK_bind', endK_bind', bind_bind', some_bind', none_bind', sum3K_1, sum3K_2, sum3K_3, sum2K_1, sum2K_2]
noncomputable def laws_heldCapSK {γ : Type} (a1 : (List DCap)) (kq2 : Int) (k : Int → Option γ) : Option γ :=
  (loopF laws_heldCapS_l0 (a1, kq2, (0 : Int), ())).bind fun q => endK q (fun z14 =>
    k z14.1) (fun z15 =>
    k z15.1)
noncomputable def laws_heldCapS (a1 : (List DCap)) (kq2 : Int) : Option (Int) :=
  laws_heldCapSK a1 kq2 some
theorem laws_heldCapS_eq {γ : Type} (a1 : (List DCap)) (kq2 : Int) (k : Int → Option γ) : laws_heldCapSK a1 kq2 k = (laws_heldCapS a1 kq2).bind k := by
  simp only [laws_heldCapSK, laws_heldCapS, cond_bind', chk_bind', nnK_bind', getK_bind', getBK_bind', endK_bind', bind_bind', some_bind', none_bind', sum3K_1, sum3K_2, sum3K_3, sum2K_1, sum2K_2]

/-! loop.example/capkernel/laws.heldTable -/
noncomputable def laws_heldTableK {γ : Type} (a1 : DTable) (kq2 : Int) (k : Int → Option γ) : Option γ :=
  (laws_heldCapS a1.2.2.2.1 kq2).bind fun r3 =>
  bif decide (r3 < (0 : Int)) then
    k (-1 : Int)
  else
  k r3
noncomputable def laws_heldTable (a1 : DTable) (kq2 : Int) : Option (Int) :=
  laws_heldTableK a1 kq2 some
theorem laws_heldTable_eq {γ : Type} (a1 : DTable) (kq2 : Int) (k : Int → Option γ) : laws_heldTableK a1 kq2 k = (laws_heldTable a1 kq2).bind k := by
  simp only [laws_heldTableK, laws_heldTable, cond_bind', chk_bind', nnK_bind', getK_bind', getBK_bind', endK_bind', bind_bind', some_bind', none_bind', sum3K_1, sum3K_2, sum3K_3, sum2K_1, sum2K_2]

/-! loop.example/capkernel/laws.FnExactUnpackTable -/
noncomputable def laws_FnExactUnpackTableK {γ : Type} (aList1 : (List Int)) (k : Bool → Option γ) : Option γ :=
  bif decide ((aList1.length : Int) > (1048576 : Int)) then
    k true
  else
  (laws_toIntS aList1).bind fun r2 =>
  (spec_UnpackTable r2).bind fun r3 =>
  (laws_toIntS aList1).bind fun r4 =>
  (impl_UnpackTable r4).bind fun r5 =>
  (laws_eqTable (r5.1, r5.2.1, r5.2.2.1, r5.2.2.2.2, ()) (r3.1, r3.2.1, r3.2.2.1, r3.2.2.2.2, ())).bind fun r6 =>
  bif (!(!r6)) then
    bif (!(r5.2.2.2.1 == r3.2.2.2.1)) then
      k false
    else
    (laws_toIntS aList1).bind fun r7 =>
    (laws_eqIntS r4 r7).bind fun r8 =>
    bif (!r8) then
      k false
    else
    (laws_markIntS (1 : Int) r4).bind fun r9 =>
    bif (!decide (r9.1 < (0 : Int))) then
      (laws_eqTable (r5.1, r5.2.1, r5.2.2.1, r5.2.2.2.2, ()) (r3.1, r3.2.1, r3.2.2.1, r3.2.2.2.2, ())).bind fun r10 =>
      bif (!(!r10)) then
        bif (!(r5.2.2.2.1 == r3.2.2.2.1)) then
          k false
        else
        (laws_markTable r5.1 r5.2.1 r5.2.2.1 (1 : Int) r5.2.2.2.2).bind fun r11 =>
        (laws_heldTable (r5.1, r5.2.1, r5.2.2.1, r11.2, ()) (1 : Int)).bind fun r12 =>
        bif decide (r12 < (0 : Int)) then
          k false
        else
        bif (r12 != r11.1) then
          k false
        else
        (laws_toIntS aList1).bind fun r13 =>
        (impl_UnpackTable r13).bind fun r14 =>
        (laws_eqTable (r14.1, r14.2.1, r14.2.2.1, r14.2.2.2.2, ()) (r3.1, r3.2.1, r3.2.2.1, r3.2.2.2.2, ())).bind fun r15 =>
        bif (!(!r15)) then
          bif (!(r14.2.2.2.1 == r3.2.2.2.1)) then
            k false
          else
          (laws_heldTable (r5.1, r5.2.1, r5.2.2.1, r11.2, ()) (1 : Int)).bind fun r16 =>
          bif decide (r16 < (0 : Int)) then
            k false
          else
          bif (r16 != r11.1) then
            k false
          else
          k true
        else
        k false
      else
      k false
    else
    k false
  else
  k false
noncomputable def laws_FnExactUnpackTable (aList1 : (List Int)) : Option (Bool) :=
  laws_FnExactUnpackTableK aList1 some
theorem laws_FnExactUnpackTable_eq {γ : Type} (aList1 : (List Int)) (k : Bool → Option γ) : laws_FnExactUnpackTableK aList1 k = (laws_FnExactUnpackTable aList1).bind k := by
  simp only [laws_FnExactUnpackTableK, laws_FnExactUnpackTable, cond_bind', chk_bind', nnK_bind', getK_bind', getBK_bind', endK_bind', bind_bind', some_bind', none_bind', sum3K_1, sum3K_2, sum3K_3, sum2K_1, sum2K_2]

/-! loop.example/capkernel/spec.l20Open -/
noncomputable def spec_l20OpenK {γ : Type} (code1 : (List Int)) (k : Dl20Rd → Option γ) : Option γ :=
  bif decide ((code1.length : Int) > (2000 : Int)) then
    chk (2000 ≤ code1.length) <|
    k ((code1.take 2000), (0 : Int), ())
  else
  k (code1, (0 : Int), ())
noncomputable def spec_l20Open (code1 : (List Int)) : Option (Dl20Rd) :=
  spec_l20OpenK code1 some
theorem spec_l20Open_eq {γ : Type} (code1 : (List Int)) (k : Dl20Rd → Option γ) : spec_l20OpenK code1 k = (spec_l20Open code1).bind k := by
  simp only [spec_l20OpenK, spec_l20Open, cond_bind', chk_bind', nnK_bind', getK_bind', getBK_bind', endK_bind', bind_bind', some_bind', none_bind', sum3K_1, sum3K_2, sum3K_3, sum2K_1, sum2K_2]

/-! (*loop.example/capkernel/spec.l20Rd).pick -/
noncomputable def spec_l20Rd_pickK {γ : Type} (n1 : Int) (b2 : Dl20Rd) (k : Int × Dl20Rd → Option γ) : Option γ :=
  bif (!decide (n1 < (1 : Int))) then
    bif ((b2.1.length : Int) == (0 : Int)) then
      k ((0 : Int), (b2.1, (IntKind.wrap .i64 (b2.2.1 + (1 : Int))), ()))
    else
    bif decide ((IntKind.wrap .i64 ((IntKind.wrap .i64 (b2.2.1 + (1 : Int))) - (1 : Int))) < (b2.1.length : Int)) then
      nnK (IntKind.wrap .i64 ((IntKind.wrap .i64 (b2.2.1 + (1 : Int))) - (1 : Int))) fun i3 =>
      getK b2.1 i3 fun v4 =>
      chk (n1 ≠ 0) <|
      k ((Int.tmod (IntKind.wrap .i64 (v4)) n1), (b2.1, (IntKind.wrap .i64 (b2.2.1 + (1 : Int))), ()))
    else
    chk ((b2.1.length : Int) ≠ 0) <|
    nnK (Int.tmod (IntKind.wrap .i64 ((IntKind.wrap .i64 (b2.2.1 + (1 : Int))) - (1 : Int))) (b2.1.length : Int)) fun i5 =>
    getK b2.1 i5 fun v6 =>
    chk ((b2.1.length : Int) ≠ 0) <|
    nnK (Int.tmod (IntKind.wrap .i64 ((IntKind.wrap .i64 ((IntKind.wrap .i64 ((IntKind.wrap .i64 (b2.2.1 + (1 : Int))) - (1 : Int))) * (7 : Int))) + (3 : Int))) (b2.1.length : Int)) fun i7 =>
    getK b2.1 i7 fun v8 =>
    chk ((b2.1.length : Int) ≠ 0) <|
    chk (n1 ≠ 0) <|
    k ((Int.tmod (IntKind.wrap .i64 (((BitVec.ofInt 64 (IntKind.wrap .i64 ((IntKind.wrap .i64 ((IntKind.wrap .i64 ((IntKind.wrap .i64 ((IntKind.wrap .i64 (v6)) * (131 : Int))) + (IntKind.wrap .i64 ((IntKind.wrap .i64 (v8)) * (1117 : Int))))) + (IntKind.wrap .i64 ((IntKind.wrap .i64 ((IntKind.wrap .i64 (b2.2.1 + (1 : Int))) - (1 : Int))) * (29 : Int))))) + (IntKind.wrap .i64 ((IntKind.wrap .i64 (Int.tdiv (IntKind.wrap .i64 ((IntKind.wrap .i64 (b2.2.1 + (1 : Int))) - (1 : Int))) (b2.1.length : Int))) * (53 : Int))))) ^^^ BitVec.ofInt 64 (IntKind.wrap .i64 (Int.tdiv (IntKind.wrap .i64 ((IntKind.wrap .i64 ((IntKind.wrap .i64 ((IntKind.wrap .i64 ((IntKind.wrap .i64 (v6)) * (131 : Int))) + (IntKind.wrap .i64 ((IntKind.wrap .i64 (v8)) * (1117 : Int))))) + (IntKind.wrap .i64 ((IntKind.wrap .i64 ((IntKind.wrap .i64 (b2.2.1 + (1 : Int))) - (1 : Int))) * (29 : Int))))) + (IntKind.wrap .i64 ((IntKind.wrap .i64 (Int.tdiv (IntKind.wrap .i64 ((IntKind.wrap .i64 (b2.2.1 + (1 : Int))) - (1 : Int))) (b2.1.length : Int))) * (53 : Int))))) (64 : Int)))).toNat : Int))) n1), (b2.1, (IntKind.wrap .i64 (b2.2.1 + (1 : Int))), ()))
  else
  k ((0 : Int), (b2.1, (IntKind.wrap .i64 (b2.2.1 + (1 : Int))), ()))
noncomputable def spec_l20Rd_pick (n1 : Int) (b2 : Dl20Rd) : Option (Int × Dl20Rd) :=
  spec_l20Rd_pickK n1 b2 some
theorem spec_l20Rd_pick_eq {γ : Type} (n1 : Int) (b2 : Dl20Rd) (k : Int × Dl20Rd → Option γ) : spec_l20Rd_pickK n1 b2 k = (spec_l20Rd_pick n1 b2).bind k := by
  simp only [spec_l20Rd_pickK, spec_l20Rd_pick, cond_bind', chk_bind', nnK_bind', getK_bind', getBK_bind', endK_bind', bind_bind', some_bind', none_bind', sum3K_1, sum3K_2, sum3K_3, sum2K_1, sum2K_2]

/-! (*loop.example/capkernel/spec.l20Rd).odd -/
noncomputable def spec_l20Rd_oddK {γ : Type} (n1 : Int) (b2 : Dl20Rd) (k : Bool × Dl20Rd → Option γ) : Option γ :=
  bif decide (n1 > (0 : Int)) then
    (spec_l20Rd_pick n1 b2).bind fun r3 =>
    k ((r3.1 == (IntKind.wrap .i64 (n1 - (1 : Int)))), r3.2)
  else
  k (false, b2)
noncomputable def spec_l20Rd_odd (n1 : Int) (b2 : Dl20Rd) : Option (Bool × Dl20Rd) :=
  spec_l20Rd_oddK n1 b2 some
theorem spec_l20Rd_odd_eq {γ : Type} (n1 : Int) (b2 : Dl20Rd) (k : Bool × Dl20Rd → Option γ) : spec_l20Rd_oddK n1 b2 k = (spec_l20Rd_odd n1 b2).bind k := by
  simp only [spec_l20Rd_oddK, spec_l20Rd_odd, cond_bind', chk_bind', nnK_bind', getK_bind', getBK_bind', endK_bind', bind_bind', some_bind', none_bind', sum3K_1, sum3K_2, sum3K_3, sum2K_1, sum2K_2]

/-! loop.example/capkernel/spec.l20Rights -/
noncomputable def spec_l20RightsK {γ : Type} (n1 : Int) (b2 : Dl20Rd) (k : Int × Dl20Rd → Option γ) : Option γ :=
  (spec_l20Rd_odd n1 b2).bind fun r3 =>
  bif r3.1 then
    (spec_l20Rd_pick (2 : Int) r3.2).bind fun r4 =>
    nnK r4.1 fun i5 =>
    getK [(-1 : Int), (16 : Int)] i5 fun v6 =>
    k (v6, r4.2)
  else
  (spec_l20Rd_pick (16 : Int) r3.2).bind fun r7 =>
  (spec_l20Rd_pick (16 : Int) r7.2).bind fun r8 =>
  (spec_l20Rd_pick (3 : Int) r8.2).bind fun r9 =>
  nnK r9.1 fun i10 =>
  getK [r7.1, (15 : Int), r8.1] i10 fun v11 =>
  k (v11, r9.2)
noncomputable def spec_l20Rights (n1 : Int) (b2 : Dl20Rd) : Option (Int × Dl20Rd) :=
  spec_l20RightsK n1 b2 some
theorem spec_l20Rights_eq {γ : Type} (n1 : Int) (b2 : Dl20Rd) (k : Int × Dl20Rd → Option γ) : spec_l20RightsK n1 b2 k = (spec_l20Rights n1 b2).bind k := by
  simp only [spec_l20RightsK, spec_l20Rights, cond_bind', chk_bind', nnK_bind', getK_bind', getBK_bind', endK_bind', bind_bind', some_bind', none_bind', sum3K_1, sum3K_2, sum3K_3, sum2K_1, sum2K_2]

/-! loop.example/capkernel/spec.l20Cap -/
noncomputable def spec_l20CapK {γ : Type} (n1 : Int) (b2 : Dl20Rd) (k : DCap × Dl20Rd → Option γ) : Option γ :=
  (spec_l20Rd_pick (7 : Int) b2).bind fun r3 =>
  (spec_l20Rd_pick (8 : Int) r3.2).bind fun r4 =>
  (spec_l20Rights (0 : Int) r4.2).bind fun r5 =>
  (spec_l2Badged (IntKind.wrap .i64 ((1 : Int) + r3.1))).bind fun r6 =>
  bif r6 then
    (spec_l20Rd_pick (2 : Int) r5.2).bind fun r7 =>
    bif (r7.1 == (0 : Int)) then
      (spec_l20Rd_pick (4 : Int) r7.2).bind fun r8 =>
      (spec_l20Rd_odd n1 r8.2).bind fun r9 =>
      bif r9.1 then
        (spec_l20Rd_pick (5 : Int) r9.2).bind fun r10 =>
        bif (r10.1 == (0 : Int)) then
          (spec_l20Rd_pick (3 : Int) r10.2).bind fun r11 =>
          nnK r11.1 fun i12 =>
          getK [(-1 : Int), (8 : Int), (0 : Int)] i12 fun v13 =>
          k ((v13, r4.1, r5.1, (IntKind.wrap .i64 ((1 : Int) + r8.1)), ()), r11.2)
        else
        bif (r10.1 == (1 : Int)) then
          (spec_l20Rd_pick (2 : Int) r10.2).bind fun r14 =>
          nnK r14.1 fun i15 =>
          getK [(-1 : Int), (100 : Int)] i15 fun v16 =>
          k (((IntKind.wrap .i64 ((1 : Int) + r3.1)), v16, r5.1, (IntKind.wrap .i64 ((1 : Int) + r8.1)), ()), r14.2)
        else
        bif (r10.1 == (2 : Int)) then
          k (((IntKind.wrap .i64 ((1 : Int) + r3.1)), r4.1, (16 : Int), (IntKind.wrap .i64 ((1 : Int) + r8.1)), ()), r10.2)
        else
        bif (r10.1 == (3 : Int)) then
          (spec_l20Rd_pick (2 : Int) r10.2).bind fun r17 =>
          nnK r17.1 fun i18 =>
          getK [(-1 : Int), (1000 : Int)] i18 fun v19 =>
          k (((IntKind.wrap .i64 ((1 : Int) + r3.1)), r4.1, r5.1, v19, ()), r17.2)
        else
        k (((6 : Int), (0 : Int), (0 : Int), (1 : Int), ()), r10.2)
      else
      k (((IntKind.wrap .i64 ((1 : Int) + r3.1)), r4.1, r5.1, (IntKind.wrap .i64 ((1 : Int) + r8.1)), ()), r9.2)
    else
    (spec_l20Rd_odd n1 r7.2).bind fun r20 =>
    bif r20.1 then
      (spec_l20Rd_pick (5 : Int) r20.2).bind fun r21 =>
      bif (r21.1 == (0 : Int)) then
        (spec_l20Rd_pick (3 : Int) r21.2).bind fun r22 =>
        nnK r22.1 fun i23 =>
        getK [(-1 : Int), (8 : Int), (0 : Int)] i23 fun v24 =>
        k ((v24, r4.1, r5.1, (0 : Int), ()), r22.2)
      else
      bif (r21.1 == (1 : Int)) then
        (spec_l20Rd_pick (2 : Int) r21.2).bind fun r25 =>
        nnK r25.1 fun i26 =>
        getK [(-1 : Int), (100 : Int)] i26 fun v27 =>
        k (((IntKind.wrap .i64 ((1 : Int) + r3.1)), v27, r5.1, (0 : Int), ()), r25.2)
      else
      bif (r21.1 == (2 : Int)) then
        k (((IntKind.wrap .i64 ((1 : Int) + r3.1)), r4.1, (16 : Int), (0 : Int), ()), r21.2)
      else
      bif (r21.1 == (3 : Int)) then
        (spec_l20Rd_pick (2 : Int) r21.2).bind fun r28 =>
        nnK r28.1 fun i29 =>
        getK [(-1 : Int), (1000 : Int)] i29 fun v30 =>
        k (((IntKind.wrap .i64 ((1 : Int) + r3.1)), r4.1, r5.1, v30, ()), r28.2)
      else
      k (((6 : Int), (0 : Int), (0 : Int), (1 : Int), ()), r21.2)
    else
    k (((IntKind.wrap .i64 ((1 : Int) + r3.1)), r4.1, r5.1, (0 : Int), ()), r20.2)
  else
  (spec_l20Rd_odd n1 r5.2).bind fun r31 =>
  bif r31.1 then
    (spec_l20Rd_pick (5 : Int) r31.2).bind fun r32 =>
    bif (r32.1 == (0 : Int)) then
      (spec_l20Rd_pick (3 : Int) r32.2).bind fun r33 =>
      nnK r33.1 fun i34 =>
      getK [(-1 : Int), (8 : Int), (0 : Int)] i34 fun v35 =>
      k ((v35, r4.1, r5.1, (0 : Int), ()), r33.2)
    else
    bif (r32.1 == (1 : Int)) then
      (spec_l20Rd_pick (2 : Int) r32.2).bind fun r36 =>
      nnK r36.1 fun i37 =>
      getK [(-1 : Int), (100 : Int)] i37 fun v38 =>
      k (((IntKind.wrap .i64 ((1 : Int) + r3.1)), v38, r5.1, (0 : Int), ()), r36.2)
    else
    bif (r32.1 == (2 : Int)) then
      k (((IntKind.wrap .i64 ((1 : Int) + r3.1)), r4.1, (16 : Int), (0 : Int), ()), r32.2)
    else
    bif (r32.1 == (3 : Int)) then
      (spec_l20Rd_pick (2 : Int) r32.2).bind fun r39 =>
      nnK r39.1 fun i40 =>
      getK [(-1 : Int), (1000 : Int)] i40 fun v41 =>
      k (((IntKind.wrap .i64 ((1 : Int) + r3.1)), r4.1, r5.1, v41, ()), r39.2)
    else
    k (((6 : Int), (0 : Int), (0 : Int), (1 : Int), ()), r32.2)
  else
  k (((IntKind.wrap .i64 ((1 : Int) + r3.1)), r4.1, r5.1, (0 : Int), ()), r31.2)
noncomputable def spec_l20Cap (n1 : Int) (b2 : Dl20Rd) : Option (DCap × Dl20Rd) :=
  spec_l20CapK n1 b2 some
theorem spec_l20Cap_eq {γ : Type} (n1 : Int) (b2 : Dl20Rd) (k : DCap × Dl20Rd → Option γ) : spec_l20CapK n1 b2 k = (spec_l20Cap n1 b2).bind k := by
  simp only [spec_l20CapK, spec_l20Cap, cond_bind', chk_bind', nnK_bind', getK_bind', getBK_bind', endK_bind', bind_bind', some_bind', none_bind', sum3K_1, sum3K_2, sum3K_3, sum2K_1, sum2K_2]

/-! loop.example/capkernel/spec.l20Table -/
noncomputable def spec_l20Table_l0K {γ : Type} (tables7 : Int) (n8 : Int) (kq9 : Int) (b10 : Dl20Rd) (b11 : Int) (b12 : Int) (b13 : Int) (b14 : Int) (b15 : Int) (b16 : Int) (b17 : (List DCap)) (b18 : (List DCap)) (kn : Int × Int × Int × Dl20Rd × Int × Int × Int × Int × Int × Int × (List DCap) × (List DCap) × Unit → Option γ) (kx : Int × Dl20Rd × Int × Int × Int × Int × Int × Int × (List DCap) × (List DCap) × Unit → Option γ) : Option γ :=
  bif decide (kq9 > (0 : Int)) then
    (spec_l20Rd_pick (3 : Int) b10).bind fun r19 =>
    bif (r19.1 == (0 : Int)) then
      (spec_l20Cap (0 : Int) r19.2).bind fun r20 =>
      chk ((b18.length + 1) ≤ bigRow) <|
      kn (tables7, n8, (IntKind.wrap .i64 (kq9 - (1 : Int))), r20.2, b11, b12, b13, b14, b15, b16, b17, (b18 ++ [(r20.1.1, r20.1.2.1, r20.1.2.2.1, r20.1.2.2.2.1, ())]), ())
    else
    bif (r19.1 == (1 : Int)) then
      (spec_l20Rd_pick (IntKind.wrap .i64 (tables7 + (1 : Int))) r19.2).bind fun r21 =>
      (spec_l20Rd_pick (16 : Int) r21.2).bind fun r22 =>
      chk ((b18.length + 1) ≤ bigRow) <|
      kn (tables7, n8, (IntKind.wrap .i64 (kq9 - (1 : Int))), r22.2, b11, b12, b13, b14, b15, b16, b17, (b18 ++ [((2 : Int), r21.1, r22.1, (0 : Int), ())]), ())
    else
    chk ((b18.length + 1) ≤ bigRow) <|
    kn (tables7, n8, (IntKind.wrap .i64 (kq9 - (1 : Int))), r19.2, b11, b12, b13, b14, b15, b16, b17, (b18 ++ [((0 : Int), (0 : Int), (0 : Int), (0 : Int), ())]), ())
  else
  kx (n8, b10, b11, b12, b13, b14, b15, b16, b17, b18, ())
noncomputable def spec_l20Table_l0 (x : Int × Int × Int × Dl20Rd × Int × Int × Int × Int × Int × Int × (List DCap) × (List DCap) × Unit) : Option ((Int × Int × Int × Dl20Rd × Int × Int × Int × Int × Int × Int × (List DCap) × (List DCap) × Unit) ⊕ (Int × Dl20Rd × Int × Int × Int × Int × Int × Int × (List DCap) × (List DCap) × Unit)) :=
  spec_l20Table_l0K x.1 x.2.1 x.2.2.1 x.2.2.2.1 x.2.2.2.2.1 x.2.2.2.2.2.1 x.2.2.2.2.2.2.1 x.2.2.2.2.2.2.2.1 x.2.2.2.2.2.2.2.2.1 x.2.2.2.2.2.2.2.2.2.1 x.2.2.2.2.2.2.2.2.2.2.1 x.2.2.2.2.2.2.2.2.2.2.2.1 (fun y => some (.inl y)) (fun a => some (.inr a))
theorem spec_l20Table_l0_eq {γ : Type} (tables7 : Int) (n8 : Int) (kq9 : Int) (b10 : Dl20Rd) (b11 : Int) (b12 : Int) (b13 : Int) (b14 : Int) (b15 : Int) (b16 : Int) (b17 : (List DCap)) (b18 : (List DCap)) (kn : Int × Int × Int × Dl20Rd × Int × Int × Int × Int × Int × Int × (List DCap) × (List DCap) × Unit → Option γ) (kx : Int × Dl20Rd × Int × Int × Int × Int × Int × Int × (List DCap) × (List DCap) × Unit → Option γ) : spec_l20Table_l0K tables7 n8 kq9 b10 b11 b12 b13 b14 b15 b16 b17 b18 kn kx = (spec_l20Table_l0 (tables7, n8, kq9, b10, b11, b12, b13, b14, b15, b16, b17, b18, ())).bind fun r => sum2K r kn kx := by
  simp only [spec_l20Table_l0K, spec_l20Table_l0, cond_bind', chk_bind', nnK_bind', getK_bind', getBK_bind', endK_bind', bind_bind', some_bind', none_bind', sum3K_1, sum3K_2, sum3K_3, sum2K_1, sum2K_2]
noncomputable def spec_l20TableK {γ : Type} (tables1 : Int) (n2 : Int) (b3 : Dl20Rd) (k : Int × Int × Int × Nat × Nat × Dl20Rd × (List DCap) → Option γ) : Option γ :=
  (spec_l20Rd_pick (3 : Int) b3).bind fun r4 =>
  (spec_l20Rd_pick (3 : Int) r4.2).bind fun r5 =>
  chk (0 ≤ r5.1) <|
  (spec_l20Rd_pick (IntKind.wrap .i64 ((1 : Int) * 2 ^ (min (r5.1).toNat 64))) r5.2).bind fun r6 =>
  chk (0 ≤ (IntKind.wrap .i64 ((1 : Int) + r4.1))) <|
  (loopF spec_l20Table_l0 (tables1, n2, (IntKind.wrap .i64 ((1 : Int) * 2 ^ (min ((IntKind.wrap .i64 ((1 : Int) + r4.1))).toNat 64))), r6.2, (0 : Int), (0 : Int), (0 : Int), (IntKind.wrap .i64 ((1 : Int) + r4.1)), r6.1, r5.1, [], [], ())).bind fun z23 =>
  (spec_l20Rd_odd z23.1 z23.2.1).bind fun r24 =>
  bif r24.1 then
    (spec_l20Rd_pick (4 : Int) r24.2).bind fun r25 =>
    bif (r25.1 == (0 : Int)) then
      (spec_l20Rd_pick (2 : Int) r25.2).bind fun r26 =>
      nnK r26.1 fun i27 =>
      getK [(0 : Int), (5 : Int)] i27 fun v28 =>
      k (v28, z23.2.2.2.2.2.2.1, z23.2.2.2.2.2.2.2.1, 0, z23.2.2.2.2.2.2.2.2.2.1.length, r26.2, z23.2.2.2.2.2.2.2.2.2.1)
    else
    bif (r25.1 == (1 : Int)) then
      chk (0 ≤ z23.2.2.2.2.2.2.2.1) <|
      (spec_l20Rd_pick (2 : Int) r25.2).bind fun r29 =>
      nnK r29.1 fun i30 =>
      getK [(-1 : Int), (IntKind.wrap .i64 ((1 : Int) * 2 ^ (min (z23.2.2.2.2.2.2.2.1).toNat 64)))] i30 fun v31 =>
      k (z23.2.2.2.2.2.1, v31, z23.2.2.2.2.2.2.2.1, 0, z23.2.2.2.2.2.2.2.2.2.1.length, r29.2, z23.2.2.2.2.2.2.2.2.2.1)
    else
    bif (r25.1 == (2 : Int)) then
      chk (1 ≤ z23.2.2.2.2.2.2.2.2.2.1.length) <|
      k (z23.2.2.2.2.2.1, z23.2.2.2.2.2.2.1, z23.2.2.2.2.2.2.2.1, 1, (z23.2.2.2.2.2.2.2.2.2.1.length - 1), r25.2, z23.2.2.2.2.2.2.2.2.2.1)
    else
    (spec_l20Cap (1 : Int) r25.2).bind fun r32 =>
    chk (0 < z23.2.2.2.2.2.2.2.2.2.1.length) <|
    getK z23.2.2.2.2.2.2.2.2.2.1 0 fun y33 =>
    k (z23.2.2.2.2.2.1, z23.2.2.2.2.2.2.1, z23.2.2.2.2.2.2.2.1, 0, (z23.2.2.2.2.2.2.2.2.2.1.set 0 (r32.1.1, r32.1.2.1, r32.1.2.2.1, r32.1.2.2.2.1, ())).length, r32.2, (z23.2.2.2.2.2.2.2.2.2.1.set 0 (r32.1.1, r32.1.2.1, r32.1.2.2.1, r32.1.2.2.2.1, ())))
  else
  k (z23.2.2.2.2.2.1, z23.2.2.2.2.2.2.1, z23.2.2.2.2.2.2.2.1, 0, z23.2.2.2.2.2.2.2.2.2.1.length, r24.2, z23.2.2.2.2.2.2.2.2.2.1)
noncomputable def spec_l20Table (tables1 : Int) (n2 : Int) (b3 : Dl20Rd) : Option (Int × Int × Int × Nat × Nat × Dl20Rd × (List DCap)) :=
  spec_l20TableK tables1 n2 b3 some
theorem spec_l20Table_eq {γ : Type} (tables1 : Int) (n2 : Int) (b3 : Dl20Rd) (k : Int × Int × Int × Nat × Nat × Dl20Rd × (List DCap) → Option γ) : spec_l20TableK tables1 n2 b3 k = (spec_l20Table tables1 n2 b3).bind k := by
  simp only [spec_l20TableK, spec_l20Table, cond_bind', chk_bind', nnK_bind', getK_bind', getBK_bind', endK_bind', bind_bind', some_bind', none_bind', sum3K_1, sum3K_2, sum3K_3, sum2K_1, sum2K_2]

/-! loop.example/capkernel/spec.DrawPackTable -/
noncomputable def spec_DrawPackTableK {γ : Type} (code1 : (List Int)) (k : Int × Int × Int × Nat × Nat × (List DCap) → Option γ) : Option γ :=
  (spec_l20Open code1).bind fun r2 =>
  (spec_l20Table (3 : Int) (6 : Int) r2).bind fun r3 =>
  k (r3.1, r3.2.1, r3.2.2.1, r3.2.2.2.1, r3.2.2.2.2.1, r3.2.2.2.2.2.2)
noncomputable def spec_DrawPackTable (code1 : (List Int)) : Option (Int × Int × Int × Nat × Nat × (List DCap)) :=
  spec_DrawPackTableK code1 some
theorem spec_DrawPackTable_eq {γ : Type} (code1 : (List Int)) (k : Int × Int × Int × Nat × Nat × (List DCap) → Option γ) : spec_DrawPackTableK code1 k = (spec_DrawPackTable code1).bind k := by
  simp only [spec_DrawPackTableK, spec_DrawPackTable, cond_bind', chk_bind', nnK_bind', getK_bind', getBK_bind', endK_bind', bind_bind', some_bind', none_bind', sum3K_1, sum3K_2, sum3K_3, sum2K_1, sum2K_2]

/-! loop.example/capkernel/laws.sameInts -/
noncomputable def laws_sameInts_l0K {γ : Type} (a3 : (List Int)) (b4 : (List Int)) (i5 : Int) (kn : (List Int) × (List Int) × Int × Unit → Option γ) (kx : Unit → Option γ) (kr : Bool × Unit → Option γ) : Option γ :=
  bif decide (i5 < (a3.length : Int)) then
    nnK i5 fun i6 =>
    getK a3 i6 fun v7 =>
    nnK i5 fun i8 =>
    getK b4 i8 fun v9 =>
    bif (v7 != v9) then
      kr (false, ())
    else
    kn (a3, b4, (IntKind.wrap .i64 (i5 + (1 : Int))), ())
  else
  kx ()
noncomputable def laws_sameInts_l0 (x : (List Int) × (List Int) × Int × Unit) : Option (((List Int) × (List Int) × Int × Unit) ⊕ ((Unit) ⊕ (Bool × Unit))) :=
  laws_sameInts_l0K x.1 x.2.1 x.2.2.1 (fun y => some (.inl y)) (fun a => some (.inr (.inl a))) (fun b => some (.inr (.inr b)))
theorem laws_sameInts_l0_eq {γ : Type} (a3 : (List Int)) (b4 : (List Int)) (i5 : Int) (kn : (List Int) × (List Int) × Int × Unit → Option γ) (kx : Unit → Option γ) (kr : Bool × Unit → Option γ) : laws_sameInts_l0K a3 b4 i5 kn kx kr = (laws_sameInts_l0 (a3, b4, i5, ())).bind fun r => sum3K r kn kx kr := by
  simp only [laws_sameInts_l0K, laws_sameInts_l0, cond_bind', chk_bind', nnK_bind', getK_bind', getBK_bind', endK_bind', bind_bind', some_bind', none_bind', sum3K_1, sum3K_2, sum3K_3, sum2K_1, sum2K_2]
noncomputable def laws_sameIntsK {γ : Type} (a1 : (List Int)) (b2 : (List Int)) (k : Bool → Option γ) : Option γ :=
  bif ((a1.length : Int) != (b2.length : Int)) then
    k false
  else
  (loopF laws_sameInts_l0 (a1, b2, (0 : Int), ())).bind fun q => endK q (fun z10 =>
    k true) (fun z11 =>
    k z11.1)
noncomputable def laws_sameInts (a1 : (List Int)) (b2 : (List Int)) : Option (Bool) :=
  laws_sameIntsK a1 b2 some
theorem laws_sameInts_eq {γ : Type} (a1 : (List Int)) (b2 : (List Int)) (k : Bool → Option γ) : laws_sameIntsK a1 b2 k = (laws_sameInts a1 b2).bind k := by
  simp only [laws_sameIntsK, laws_sameInts, cond_bind', chk_bind', nnK_bind', getK_bind', getBK_bind', endK_bind', bind_bind', some_bind', none_bind', sum3K_1, sum3K_2, sum3K_3, sum2K_1, sum2K_2]

/-! loop.example/capkernel/laws.alive -/
noncomputable def laws_aliveK {γ : Type}  (k : Bool → Option γ) : Option γ :=
  k true
noncomputable def laws_alive  : Option (Bool) :=
  laws_aliveK  some
theorem laws_alive_eq {γ : Type}  (k : Bool → Option γ) : laws_aliveK  k = (laws_alive ).bind k := by
  simp only [laws_aliveK, laws_alive, cond_bind', chk_bind', nnK_bind', getK_bind', getBK_bind', endK_bind', bind_bind', some_bind', none_bind', sum3K_1, sum3K_2, sum3K_3, sum2K_1, sum2K_2]

/-! loop.example/capkernel/laws.sameTable -/
noncomputable def laws_sameTable_l0K {γ : Type} (a3 : DTable) (b4 : DTable) (kq5 : Int) (kn : DTable × DTable × Int × Unit → Option γ) (kx : DTable × DTable × Unit → Option γ) (kr : Bool × Unit → Option γ) : Option γ :=
  bif decide (kq5 < (a3.2.2.2.1.length : Int)) then
    nnK kq5 fun i6 =>
    getK a3.2.2.2.1 i6 fun v7 =>
    nnK kq5 fun i8 =>
    getK b4.2.2.2.1 i8 fun v9 =>
    bif (!(decide (v7.1 = v9.1) && (decide (v7.2.1 = v9.2.1) && (decide (v7.2.2.1 = v9.2.2.1) && (decide (v7.2.2.2.1 = v9.2.2.2.1) && true))))) then
      kr (false, ())
    else
    kn (a3, b4, (IntKind.wrap .i64 (kq5 + (1 : Int))), ())
  else
  kx (a3, b4, ())
noncomputable def laws_sameTable_l0 (x : DTable × DTable × Int × Unit) : Option ((DTable × DTable × Int × Unit) ⊕ ((DTable × DTable × Unit) ⊕ (Bool × Unit))) :=
  laws_sameTable_l0K x.1 x.2.1 x.2.2.1 (fun y => some (.inl y)) (fun a => some (.inr (.inl a))) (fun b => some (.inr (.inr b)))
theorem laws_sameTable_l0_eq {γ : Type} (a3 : DTable) (b4 : DTable) (kq5 : Int) (kn : DTable × DTable × Int × Unit → Option γ) (kx : DTable × DTable × Unit → Option γ) (kr : Bool × Unit → Option γ) : laws_sameTable_l0K a3 b4 kq5 kn kx kr = (laws_sameTable_l0 (a3, b4, kq5, ())).bind fun r => sum3K r kn kx kr := by
  simp only [laws_sameTable_l0K, laws_sameTable_l0, cond_bind', chk_bind', nnK_bind', getK_bind', getBK_bind', endK_bind', bind_bind', some_bind', none_bind', sum3K_1, sum3K_2, sum3K_3, sum2K_1, sum2K_2]
noncomputable def laws_sameTableK {γ : Type} (a1 : DTable) (b2 : DTable) (k : Bool → Option γ) : Option γ :=
  bif ((a1.2.2.2.1.length : Int) != (b2.2.2.2.1.length : Int)) then
    k false
  else
  (loopF laws_sameTable_l0 ((a1.1, a1.2.1, a1.2.2.1, a1.2.2.2.1, ()), (b2.1, b2.2.1, b2.2.2.1, b2.2.2.2.1, ()), (0 : Int), ())).bind fun q => endK q (fun z10 =>
    bif (z10.1.1 == z10.2.1.1) then
      bif (z10.1.2.1 == z10.2.1.2.1) then
        k (z10.1.2.2.1 == z10.2.1.2.2.1)
      else
      k false
    else
    k false) (fun z11 =>
    k z11.1)
noncomputable def laws_sameTable (a1 : DTable) (b2 : DTable) : Option (Bool) :=
  laws_sameTableK a1 b2 some
theorem laws_sameTable_eq {γ : Type} (a1 : DTable) (b2 : DTable) (k : Bool → Option γ) : laws_sameTableK a1 b2 k = (laws_sameTable a1 b2).bind k := by
  simp only [laws_sameTableK, laws_sameTable, cond_bind', chk_bind', nnK_bind', getK_bind', getBK_bind', endK_bind', bind_bind', some_bind', none_bind', sum3K_1, sum3K_2, sum3K_3, sum2K_1, sum2K_2]

/-! loop.example/capkernel/laws.FnPackTable -/
noncomputable def laws_FnPackTableK {γ : Type} (code1 : (List Int)) (k : Bool → Option γ) : Option γ :=
  bif decide ((code1.length : Int) > (1048576 : Int)) then
    k true
  else
  (spec_DrawPackTable code1).bind fun r2 =>
  (impl_PackTable (r2.1, r2.2.1, r2.2.2.1, ((r2.2.2.2.2.2.drop r2.2.2.2.1).take r2.2.2.2.2.1), ())).bind fun r3 =>
  (spec_PackTable (r2.1, r2.2.1, r2.2.2.1, ((r2.2.2.2.2.2.drop r2.2.2.2.1).take r2.2.2.2.2.1), ())).bind fun r4 =>
  (laws_sameInts r3 r4).bind fun r5 =>
  bif (!r5) then
    k false
  else
  (spec_TableValid (r2.1, r2.2.1, r2.2.2.1, ((r2.2.2.2.2.2.drop r2.2.2.2.1).take r2.2.2.2.2.1), ())).bind fun r6 =>
  bif (!r6) then
    bif ((r3.length : Int) == (0 : Int)) then
      (laws_alive).bind fun r7 =>
      k r7
    else
    k false
  else
  (impl_UnpackTable r3).bind fun r8 =>
  bif r8.2.2.2.1 then
    (laws_sameTable (r8.1, r8.2.1, r8.2.2.1, r8.2.2.2.2, ()) (r2.1, r2.2.1, r2.2.2.1, ((r2.2.2.2.2.2.drop r2.2.2.2.1).take r2.2.2.2.2.1), ())).bind fun r9 =>
    bif r9 then
      k ((r3.length : Int) == (IntKind.wrap .i64 ((((r2.2.2.2.2.2.drop r2.2.2.2.1).take r2.2.2.2.2.1).length : Int) + (1 : Int))))
    else
    k false
  else
  k false
noncomputable def laws_FnPackTable (code1 : (List Int)) : Option (Bool) :=
  laws_FnPackTableK code1 some
theorem laws_FnPackTable_eq {γ : Type} (code1 : (List Int)) (k : Bool → Option γ) : laws_FnPackTableK code1 k = (laws_FnPackTable code1).bind k := by
  simp only [laws_FnPackTableK, laws_FnPackTable, cond_bind', chk_bind', nnK_bind', getK_bind', getBK_bind', endK_bind', bind_bind', some_bind', none_bind', sum3K_1, sum3K_2, sum3K_3, sum2K_1, sum2K_2]

/-! loop.example/capkernel/spec.DrawUnpackTable -/
noncomputable def spec_DrawUnpackTableK {γ : Type} (code1 : (List Int)) (k : Nat × (List Int) → Option γ) : Option γ :=
  (spec_l20Open code1).bind fun r2 =>
  (spec_l20Table (3 : Int) (0 : Int) r2).bind fun r3 =>
  (spec_PackTable (r3.1, r3.2.1, r3.2.2.1, ((r3.2.2.2.2.2.2.drop r3.2.2.2.1).take r3.2.2.2.2.1), ())).bind fun r4 =>
  (spec_l20Rd_odd (3 : Int) r3.2.2.2.2.2.1).bind fun r5 =>
  bif r5.1 then
    (spec_l20Rd_pick (3 : Int) r5.2).bind fun r6 =>
    bif (r6.1 == (0 : Int)) then
      (spec_l20Rd_pick (r4.length : Int) r6.2).bind fun r7 =>
      (spec_l20Rd_pick (256 : Int) r7.2).bind fun r8 =>
      (spec_l20Rd_pick (4 : Int) r8.2).bind fun r9 =>
      nnK r9.1 fun i10 =>
      getK [(-1 : Int), (7 : Int), r8.1, (1099511627776 : Int)] i10 fun v11 =>
      nnK r7.1 fun i12 =>
      chk (i12 < r4.length) <|
      getK r4 i12 fun y13 =>
      k ((r4.set i12 v11).length, (r4.set i12 v11))
    else
    bif (r6.1 == (1 : Int)) then
      (spec_l20Rd_pick (r4.length : Int) r6.2).bind fun r14 =>
      nnK r14.1 fun i15 =>
      chk (i15 ≤ r4.length) <|
      k (i15, r4)
    else
    chk ((r4.length + 1) ≤ bigRow) <|
    k ((r4 ++ [(0 : Int)]).length, (r4 ++ [(0 : Int)]))
  else
  k (r4.length, r4)
noncomputable def spec_DrawUnpackTable (code1 : (List Int)) : Option (Nat × (List Int)) :=
  spec_DrawUnpackTableK code1 some
theorem spec_DrawUnpackTable_eq {γ : Type} (code1 : (List Int)) (k : Nat × (List Int) → Option γ) : spec_DrawUnpackTableK code1 k = (spec_DrawUnpackTable code1).bind k := by
  simp only [spec_DrawUnpackTableK, spec_DrawUnpackTable, cond_bind', chk_bind', nnK_bind', getK_bind', getBK_bind', endK_bind', bind_bind', some_bind', none_bind', sum3K_1, sum3K_2, sum3K_3, sum2K_1, sum2K_2]

/-! loop.example/capkernel/laws.FnUnpackTable -/
noncomputable def laws_FnUnpackTableK {γ : Type} (code1 : (List Int)) (k : Bool → Option γ) : Option γ :=
  bif decide ((code1.length : Int) > (1048576 : Int)) then
    k true
  else
  (spec_DrawUnpackTable code1).bind fun r2 =>
  (impl_UnpackTable ((r2.2.drop 0).take r2.1)).bind fun r3 =>
  (spec_UnpackTable ((r2.2.drop 0).take r2.1)).bind fun r4 =>
  (laws_sameTable (r3.1, r3.2.1, r3.2.2.1, r3.2.2.2.2, ()) (r4.1, r4.2.1, r4.2.2.1, r4.2.2.2.2, ())).bind fun r5 =>
  bif (!(!r5)) then
    bif (!(r3.2.2.2.1 == r4.2.2.2.1)) then
      k false
    else
    bif (!r3.2.2.2.1) then
      (laws_sameTable (r3.1, r3.2.1, r3.2.2.1, r3.2.2.2.2, ()) ((0 : Int), (0 : Int), (0 : Int), [], ())).bind fun r6 =>
      bif r6 then
        (laws_alive).bind fun r7 =>
        bif (!r7) then
          bif r3.2.2.2.1 then
            (impl_PackTable (r3.1, r3.2.1, r3.2.2.1, r3.2.2.2.2, ())).bind fun r8 =>
            (laws_sameInts r8 ((r2.2.drop 0).take r2.1)).bind fun r9 =>
            k r9
          else
          k false
        else
        k true
      else
      bif r3.2.2.2.1 then
        (impl_PackTable (r3.1, r3.2.1, r3.2.2.1, r3.2.2.2.2, ())).bind fun r10 =>
        (laws_sameInts r10 ((r2.2.drop 0).take r2.1)).bind fun r11 =>
        k r11
      else
      k false
    else
    bif r3.2.2.2.1 then
      (impl_PackTable (r3.1, r3.2.1, r3.2.2.1, r3.2.2.2.2, ())).bind fun r12 =>
      (laws_sameInts r12 ((r2.2.drop 0).take r2.1)).bind fun r13 =>
      k r13
    else
    k false
  else
  k false
noncomputable def laws_FnUnpackTable (code1 : (List Int)) : Option (Bool) :=
  laws_FnUnpackTableK code1 some
theorem laws_FnUnpackTable_eq {γ : Type} (code1 : (List Int)) (k : Bool → Option γ) : laws_FnUnpackTableK code1 k = (laws_FnUnpackTable code1).bind k := by
  simp only [laws_FnUnpackTableK, laws_FnUnpackTable, cond_bind', chk_bind', nnK_bind', getK_bind', getBK_bind', endK_bind', bind_bind', some_bind', none_bind', sum3K_1, sum3K_2, sum3K_3, sum2K_1, sum2K_2]

end Go.Ev
