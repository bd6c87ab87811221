/-
  What the functions of the program compute, as functions of plain data; printed by a program of the prover.
-/
import Derived.Test.YtabemkafgnhddaaEv3
namespace Go.Ev
set_option linter.unusedVariables false
set_option linter.unusedSimpArgs false
set_option maxRecDepth 100000
abbrev I : Ty := .int .i64
abbrev DWaiter : Type := Int × Int × Int × Int × Unit
abbrev tWaiter : Ty := .cons I (.cons I (.cons I (.cons I (.nil))))
abbrev DEndpoint : Type := Bool × (List DWaiter) × Unit
abbrev tEndpoint : Ty := .cons .bool (.cons (.sl tWaiter) (.nil))
abbrev Dl20Rd : Type := (List Int) × Int × Unit
abbrev tl20Rd : Ty := .cons (.sl (.int .u8)) (.cons I (.nil))
/-! loop.example/capkernel/laws.szWaiterS -/
noncomputable def laws_szWaiterSK {γ : Type} (a1 : (List DWaiter)) (left2 : Int) (k : Int → Option γ) : Option γ :=
 bif decide ((IntKind.wrap .i64 (left2 - (a1.length : Int))) < (0 : Int)) then
  k (-1 : Int)
 else
 k (IntKind.wrap .i64 (left2 - (a1.length : Int)))
noncomputable def laws_szWaiterS (a1 : (List DWaiter)) (left2 : Int) : Option (Int) :=
  laws_szWaiterSK a1 left2 some
theorem laws_szWaiterS_eq {γ : Type} (a1 : (List DWaiter)) (left2 : Int) (k : Int → Option γ) : laws_szWaiterSK a1 left2 k = (laws_szWaiterS a1 left2).bind k := by
  simp only [laws_szWaiterSK, laws_szWaiterS, B0, B1, B2, B3, B4, B5, B6, B7, B8, C1, C2, C3, C4, C5]

/-! loop.example/capkernel/laws.szEndpoint -/
noncomputable def laws_szEndpointK {γ : Type} (a1 : DEndpoint) (left2 : Int) (k : Int → Option γ) : Option γ :=
 (laws_szWaiterS a1.2.1 left2).bind fun r3 =>
 bif decide (r3 < (0 : Int)) then
  k (-1 : Int)
 else
 k r3
noncomputable def laws_szEndpoint (a1 : DEndpoint) (left2 : Int) : Option (Int) :=
  laws_szEndpointK a1 left2 some
theorem laws_szEndpoint_eq {γ : Type} (a1 : DEndpoint) (left2 : Int) (k : Int → Option γ) : laws_szEndpointK a1 left2 k = (laws_szEndpoint a1 left2).bind k := by
  simp only [laws_szEndpointK, laws_szEndpoint, B0, B1, B2, B3, B4, B5, B6, B7, B8, C1, C2, C3, C4, C5]

/-! loop.example/capkernel/laws.toWaiter -/
noncomputable def laws_toWaiterK {γ : Type} (a1 : DWaiter) (k : DWaiter → Option γ) : Option γ :=
 k (a1.1, a1.2.1, a1.2.2.1, a1.2.2.2.1, ())
noncomputable def laws_toWaiter (a1 : DWaiter) : Option (DWaiter) :=
  laws_toWaiterK a1 some
theorem laws_toWaiter_eq {γ : Type} (a1 : DWaiter) (k : DWaiter → Option γ) : laws_toWaiterK a1 k = (laws_toWaiter a1).bind k := by
  simp only [laws_toWaiterK, laws_toWaiter, B0, B1, B2, B3, B4, B5, B6, B7, B8, C1, C2, C3, C4, C5]

/-! loop.example/capkernel/laws.toWaiterS -/
noncomputable def laws_toWaiterS_l0K {γ : Type} (a2 : (List DWaiter)) (i3 : Int) (b4 : (List DWaiter)) (kn : (List DWaiter) × Int × (List DWaiter) × Unit → Option γ) (kx : (List DWaiter) × Unit → Option γ) : Option γ :=
 bif decide (i3 < (a2.length : Int)) then
  nnK i3 fun i5 =>
  getK a2 i5 fun v6 =>
  (laws_toWaiter v6).bind fun r7 =>
  nnK i3 fun i8 =>
  chk (i8 < b4.length) <|
  getK b4 i8 fun y9 =>
  kn (a2, (IntKind.wrap .i64 (i3 + (1 : Int))), (b4.set i8 (r7.1, r7.2.1, r7.2.2.1, r7.2.2.2.1, ())), ())
 else
 kx (b4, ())
noncomputable def laws_toWaiterS_l0 (x : (List DWaiter) × Int × (List DWaiter) × Unit) : Option (((List DWaiter) × Int × (List DWaiter) × Unit) ⊕ ((List DWaiter) × Unit)) :=
  laws_toWaiterS_l0K x.1 x.2.1 x.2.2.1 (fun y => some (.inl y)) (fun a => some (.inr a))
theorem laws_toWaiterS_l0_eq {γ : Type} (a2 : (List DWaiter)) (i3 : Int) (b4 : (List DWaiter)) (kn : (List DWaiter) × Int × (List DWaiter) × Unit → Option γ) (kx : (List DWaiter) × Unit → Option γ) : laws_toWaiterS_l0K a2 i3 b4 kn kx = (laws_toWaiterS_l0 (a2, i3, b4, ())).bind fun r => sum2K r kn kx := by
  simp only [laws_toWaiterS_l0K, laws_toWaiterS_l0, B0, B1, B2, B3, B4, B5, B6, B7, B8, C1, C2, C3, C4, C5]
noncomputable def laws_toWaiterSK {γ : Type} (a1 : (List DWaiter)) (k : (List DWaiter) → Option γ) : Option γ :=
 chk (a1.length ≤ bigRow) <|
 (loopF laws_toWaiterS_l0 (a1, (0 : Int), (List.replicate a1.length ((0 : Int), (0 : Int), (0 : Int), (0 : Int), ())), ())).bind fun z10 =>
 k z10.1
noncomputable def laws_toWaiterS (a1 : (List DWaiter)) : Option ((List DWaiter)) :=
  laws_toWaiterSK a1 some
theorem laws_toWaiterS_eq {γ : Type} (a1 : (List DWaiter)) (k : (List DWaiter) → Option γ) : laws_toWaiterSK a1 k = (laws_toWaiterS a1).bind k := by
  simp only [laws_toWaiterSK, laws_toWaiterS, B0, B1, B2, B3, B4, B5, B6, B7, B8, C1, C2, C3, C4, C5]

/-! loop.example/capkernel/laws.toEndpoint -/
noncomputable def laws_toEndpointK {γ : Type} (a1 : DEndpoint) (k : Bool × (List DWaiter) → Option γ) : Option γ :=
 (laws_toWaiterS a1.2.1).bind fun r2 =>
 k (a1.1, r2)
noncomputable def laws_toEndpoint (a1 : DEndpoint) : Option (Bool × (List DWaiter)) :=
  laws_toEndpointK a1 some
theorem laws_toEndpoint_eq {γ : Type} (a1 : DEndpoint) (k : Bool × (List DWaiter) → Option γ) : laws_toEndpointK a1 k = (laws_toEndpoint a1).bind k := by
  simp only [laws_toEndpointK, laws_toEndpoint, B0, B1, B2, B3, B4, B5, B6, B7, B8, C1, C2, C3, C4, C5]

/-! loop.example/capkernel/spec.l1In -/
noncomputable def spec_l1InK {γ : Type} (n1 : Int) (lo2 : Int) (hi3 : Int) (k : Bool → Option γ) : Option γ :=
 bif decide (n1 ≥ lo2) then
  k (decide (n1 ≤ hi3))
 else
 k false
noncomputable def spec_l1In (n1 : Int) (lo2 : Int) (hi3 : Int) : Option (Bool) :=
  spec_l1InK n1 lo2 hi3 some
theorem spec_l1In_eq {γ : Type} (n1 : Int) (lo2 : Int) (hi3 : Int) (k : Bool → Option γ) : spec_l1InK n1 lo2 hi3 k = (spec_l1In n1 lo2 hi3).bind k := by
  simp only [spec_l1InK, spec_l1In, B0, B1, B2, B3, B4, B5, B6, B7, B8, C1, C2, C3, C4, C5]

/-! loop.example/capkernel/spec.EndpointValid -/
noncomputable def spec_EndpointValid_l2K {γ : Type} (e11 : DEndpoint) (kq12 : Int) (j13 : Int) (b14 : DWaiter) (kn : DEndpoint × Int × Int × DWaiter × Unit → Option γ) (kx : DEndpoint × Int × Unit → Option γ) (kr : Bool × Unit → Option γ) : Option γ :=
 bif decide (j13 < kq12) then
  nnK j13 fun i15 =>
  getK e11.2.1 i15 fun v16 =>
  bif (v16.1 == b14.1) then
   kr (false, ())
  else
  kn (e11, kq12, (IntKind.wrap .i64 (j13 + (1 : Int))), b14, ())
 else
 kx (e11, kq12, ())
noncomputable def spec_EndpointValid_l2 (x : DEndpoint × Int × Int × DWaiter × Unit) : Option ((DEndpoint × Int × Int × DWaiter × Unit) ⊕ ((DEndpoint × Int × Unit) ⊕ (Bool × Unit))) :=
  spec_EndpointValid_l2K x.1 x.2.1 x.2.2.1 x.2.2.2.1 (fun y => some (.inl y)) (fun a => some (.inr (.inl a))) (fun b => some (.inr (.inr b)))
theorem spec_EndpointValid_l2_eq {γ : Type} (e11 : DEndpoint) (kq12 : Int) (j13 : Int) (b14 : DWaiter) (kn : DEndpoint × Int × Int × DWaiter × Unit → Option γ) (kx : DEndpoint × Int × Unit → Option γ) (kr : Bool × Unit → Option γ) : spec_EndpointValid_l2K e11 kq12 j13 b14 kn kx kr = (spec_EndpointValid_l2 (e11, kq12, j13, b14, ())).bind fun r => sum3K r kn kx kr := by
  simp only [spec_EndpointValid_l2K, spec_EndpointValid_l2, B0, B1, B2, B3, B4, B5, B6, B7, B8, C1, C2, C3, C4, C5]
noncomputable def spec_EndpointValid_l0K {γ : Type} (e2 : DEndpoint) (kq3 : Int) (kn : DEndpoint × Int × Unit → Option γ) (kx : DEndpoint × Unit → Option γ) (kr : Bool × Unit → Option γ) : Option γ :=
 bif decide (kq3 < (e2.2.1.length : Int)) then
  nnK kq3 fun i4 =>
  getK e2.2.1 i4 fun v5 =>
  (spec_l1In v5.1 (0 : Int) (15 : Int)).bind fun r6 =>
  bif (!(!r6)) then
   (spec_l1In v5.2.1 (0 : Int) (7 : Int)).bind fun r7 =>
   bif (!(!r7)) then
    (spec_l1In v5.2.2.1 (0 : Int) (999 : Int)).bind fun r8 =>
    bif (!(!r8)) then
     bif decide (kq3 > (0 : Int)) then
      nnK (IntKind.wrap .i64 (kq3 - (1 : Int))) fun i9 =>
      getK e2.2.1 i9 fun v10 =>
      bif (!decide (v10.2.1 < v5.2.1)) then
       bif (!e2.1) then
        bif (!(v5.2.2.1 != (0 : Int))) then
         bif (v5.2.2.2.1 != (0 : Int)) then
          kr (false, ())
         else
         (loopF spec_EndpointValid_l2 (e2, kq3, (0 : Int), (v5.1, v5.2.1, v5.2.2.1, v5.2.2.2.1, ()), ())).bind fun q => endK q (fun z17 =>
          kn (z17.1, (IntKind.wrap .i64 (z17.2.1 + (1 : Int))), ())) (fun z18 =>
          kr (z18.1, ()))
        else
        kr (false, ())
       else
       (loopF spec_EndpointValid_l2 (e2, kq3, (0 : Int), (v5.1, v5.2.1, v5.2.2.1, v5.2.2.2.1, ()), ())).bind fun q => endK q (fun z19 =>
        kn (z19.1, (IntKind.wrap .i64 (z19.2.1 + (1 : Int))), ())) (fun z20 =>
        kr (z20.1, ()))
      else
      kr (false, ())
     else
     bif (!e2.1) then
      bif (!(v5.2.2.1 != (0 : Int))) then
       bif (v5.2.2.2.1 != (0 : Int)) then
        kr (false, ())
       else
       (loopF spec_EndpointValid_l2 (e2, kq3, (0 : Int), (v5.1, v5.2.1, v5.2.2.1, v5.2.2.2.1, ()), ())).bind fun q => endK q (fun z21 =>
        kn (z21.1, (IntKind.wrap .i64 (z21.2.1 + (1 : Int))), ())) (fun z22 =>
        kr (z22.1, ()))
      else
      kr (false, ())
     else
     (loopF spec_EndpointValid_l2 (e2, kq3, (0 : Int), (v5.1, v5.2.1, v5.2.2.1, v5.2.2.2.1, ()), ())).bind fun q => endK q (fun z23 =>
      kn (z23.1, (IntKind.wrap .i64 (z23.2.1 + (1 : Int))), ())) (fun z24 =>
      kr (z24.1, ()))
    else
    kr (false, ())
   else
   kr (false, ())
  else
  kr (false, ())
 else
 kx (e2, ())
noncomputable def spec_EndpointValid_l0 (x : DEndpoint × Int × Unit) : Option ((DEndpoint × Int × Unit) ⊕ ((DEndpoint × Unit) ⊕ (Bool × Unit))) :=
  spec_EndpointValid_l0K x.1 x.2.1 (fun y => some (.inl y)) (fun a => some (.inr (.inl a))) (fun b => some (.inr (.inr b)))
theorem spec_EndpointValid_l0_eq {γ : Type} (e2 : DEndpoint) (kq3 : Int) (kn : DEndpoint × Int × Unit → Option γ) (kx : DEndpoint × Unit → Option γ) (kr : Bool × Unit → Option γ) : spec_EndpointValid_l0K e2 kq3 kn kx kr = (spec_EndpointValid_l0 (e2, kq3, ())).bind fun r => sum3K r kn kx kr := by
  simp only [spec_EndpointValid_l0K, spec_EndpointValid_l0, B0, B1, B2, B3, B4, B5, B6, B7, B8, C1, C2, C3, C4, C5]
noncomputable def spec_EndpointValidK {γ : Type} (e1 : DEndpoint) (k : Bool → Option γ) : Option γ :=
 (loopF spec_EndpointValid_l0 ((e1.1, e1.2.1, ()), (0 : Int), ())).bind fun q => endK q (fun z25 =>
  bif (!decide ((z25.1.2.1.length : Int) > (0 : Int))) then
   k (!z25.1.1)
  else
  k true) (fun z26 =>
  k z26.1)
noncomputable def spec_EndpointValid (e1 : DEndpoint) : Option (Bool) :=
  spec_EndpointValidK e1 some
theorem spec_EndpointValid_eq {γ : Type} (e1 : DEndpoint) (k : Bool → Option γ) : spec_EndpointValidK e1 k = (spec_EndpointValid e1).bind k := by
  simp only [spec_EndpointValidK, spec_EndpointValid, B0, B1, B2, B3, B4, B5, B6, B7, B8, C1, C2, C3, C4, C5]

/-! loop.example/capkernel/impl.in -/
noncomputable def impl_inK {γ : Type} (n1 : Int) (lo2 : Int) (hi3 : Int) (k : Bool → Option γ) : Option γ :=
 bif decide (n1 ≥ lo2) then
  k (decide (n1 ≤ hi3))
 else
 k false
noncomputable def impl_in (n1 : Int) (lo2 : Int) (hi3 : Int) : Option (Bool) :=
  impl_inK n1 lo2 hi3 some
theorem impl_in_eq {γ : Type} (n1 : Int) (lo2 : Int) (hi3 : Int) (k : Bool → Option γ) : impl_inK n1 lo2 hi3 k = (impl_in n1 lo2 hi3).bind k := by
  simp only [impl_inK, impl_in, B0, B1, B2, B3, B4, B5, B6, B7, B8, C1, C2, C3, C4, C5]

/-! loop.example/capkernel/impl.isThread -/
noncomputable def impl_isThreadK {γ : Type} (n1 : Int) (k : Bool → Option γ) : Option γ :=
 (impl_in n1 (0 : Int) (15 : Int)).bind fun r2 =>
 k r2
noncomputable def impl_isThread (n1 : Int) : Option (Bool) :=
  impl_isThreadK n1 some
theorem impl_isThread_eq {γ : Type} (n1 : Int) (k : Bool → Option γ) : impl_isThreadK n1 k = (impl_isThread n1).bind k := by
  simp only [impl_isThreadK, impl_isThread, B0, B1, B2, B3, B4, B5, B6, B7, B8, C1, C2, C3, C4, C5]

/-! loop.example/capkernel/impl.isPrio -/
noncomputable def impl_isPrioK {γ : Type} (n1 : Int) (k : Bool → Option γ) : Option γ :=
 (impl_in n1 (0 : Int) (7 : Int)).bind fun r2 =>
 k r2
noncomputable def impl_isPrio (n1 : Int) : Option (Bool) :=
  impl_isPrioK n1 some
theorem impl_isPrio_eq {γ : Type} (n1 : Int) (k : Bool → Option γ) : impl_isPrioK n1 k = (impl_isPrio n1).bind k := by
  simp only [impl_isPrioK, impl_isPrio, B0, B1, B2, B3, B4, B5, B6, B7, B8, C1, C2, C3, C4, C5]

/-! (loop.example/capkernel/impl.Waiter).may -/
noncomputable def impl_Waiter_mayK {γ : Type} (w1 : DWaiter) (k : Bool → Option γ) : Option γ :=
 (impl_isThread w1.1).bind fun r2 =>
 bif r2 then
  (impl_isPrio w1.2.1).bind fun r3 =>
  bif r3 then
   (impl_in w1.2.2.1 (0 : Int) (999 : Int)).bind fun r4 =>
   k r4
  else
  k false
 else
 k false
noncomputable def impl_Waiter_may (w1 : DWaiter) : Option (Bool) :=
  impl_Waiter_mayK w1 some
theorem impl_Waiter_may_eq {γ : Type} (w1 : DWaiter) (k : Bool → Option γ) : impl_Waiter_mayK w1 k = (impl_Waiter_may w1).bind k := by
  simp only [impl_Waiter_mayK, impl_Waiter_may, B0, B1, B2, B3, B4, B5, B6, B7, B8, C1, C2, C3, C4, C5]

/-! (loop.example/capkernel/impl.Endpoint).at$1 -/
noncomputable def impl_Endpoint_at_c1K {γ : Type} (w1 : DWaiter) (p2 : Int) (k : Bool → Option γ) : Option γ :=
 k (w1.1 == p2)
noncomputable def impl_Endpoint_at_c1 (w1 : DWaiter) (p2 : Int) : Option (Bool) :=
  impl_Endpoint_at_c1K w1 p2 some
theorem impl_Endpoint_at_c1_eq {γ : Type} (w1 : DWaiter) (p2 : Int) (k : Bool → Option γ) : impl_Endpoint_at_c1K w1 p2 k = (impl_Endpoint_at_c1 w1 p2).bind k := by
  simp only [impl_Endpoint_at_c1K, impl_Endpoint_at_c1, B0, B1, B2, B3, B4, B5, B6, B7, B8, C1, C2, C3, C4, C5]

/-! slices.IndexFunc(()loop.example/capkernel/impl.Waiter,loop.example/capkernel/impl.Waiter) -/
noncomputable def slices_IndexFunc_Waiter_l0K {γ : Type} (sq3 : (List DWaiter)) (f4 : Int) (a5 : Int) (a6 : Int) (kn : (List DWaiter) × Int × Int × Int × Unit → Option γ) (kx : Unit → Option γ) (kr : Int × Unit → Option γ) : Option γ :=
 bif decide (a6 < a5) then
  nnK a6 fun i7 =>
  getK sq3 i7 fun v8 =>
  (impl_Endpoint_at_c1 v8 f4).bind fun r9 =>
  bif r9 then
   kr (a6, ())
  else
  kn (sq3, f4, a5, (IntKind.wrap .i64 (a6 + (1 : Int))), ())
 else
 kx ()
noncomputable def slices_IndexFunc_Waiter_l0 (x : (List DWaiter) × Int × Int × Int × Unit) : Option (((List DWaiter) × Int × Int × Int × Unit) ⊕ ((Unit) ⊕ (Int × Unit))) :=
  slices_IndexFunc_Waiter_l0K x.1 x.2.1 x.2.2.1 x.2.2.2.1 (fun y => some (.inl y)) (fun a => some (.inr (.inl a))) (fun b => some (.inr (.inr b)))
theorem slices_IndexFunc_Waiter_l0_eq {γ : Type} (sq3 : (List DWaiter)) (f4 : Int) (a5 : Int) (a6 : Int) (kn : (List DWaiter) × Int × Int × Int × Unit → Option γ) (kx : Unit → Option γ) (kr : Int × Unit → Option γ) : slices_IndexFunc_Waiter_l0K sq3 f4 a5 a6 kn kx kr = (slices_IndexFunc_Waiter_l0 (sq3, f4, a5, a6, ())).bind fun r => sum3K r kn kx kr := by
  simp only [slices_IndexFunc_Waiter_l0K, slices_IndexFunc_Waiter_l0, B0, B1, B2, B3, B4, B5, B6, B7, B8, C1, C2, C3, C4, C5]
noncomputable def slices_IndexFunc_WaiterK {γ : Type} (sq1 : (List DWaiter)) (f2 : Int) (k : Int → Option γ) : Option γ :=
 (loopF slices_IndexFunc_Waiter_l0 (sq1, f2, (sq1.length : Int), (0 : Int), ())).bind fun q => endK q (fun z10 =>
  k (-1 : Int)) (fun z11 =>
  k z11.1)
noncomputable def slices_IndexFunc_Waiter (sq1 : (List DWaiter)) (f2 : Int) : Option (Int) :=
  slices_IndexFunc_WaiterK sq1 f2 some
theorem slices_IndexFunc_Waiter_eq {γ : Type} (sq1 : (List DWaiter)) (f2 : Int) (k : Int → Option γ) : slices_IndexFunc_WaiterK sq1 f2 k = (slices_IndexFunc_Waiter sq1 f2).bind k := by
  simp only [slices_IndexFunc_WaiterK, slices_IndexFunc_Waiter, B0, B1, B2, B3, B4, B5, B6, B7, B8, C1, C2, C3, C4, C5]

/-! (loop.example/capkernel/impl.Endpoint).at -/
noncomputable def impl_Endpoint_atK {γ : Type} (e1 : DEndpoint) (number2 : Int) (k : Int → Option γ) : Option γ :=
 (slices_IndexFunc_Waiter e1.2.1 number2).bind fun r3 =>
 k r3
noncomputable def impl_Endpoint_at (e1 : DEndpoint) (number2 : Int) : Option (Int) :=
  impl_Endpoint_atK e1 number2 some
theorem impl_Endpoint_at_eq {γ : Type} (e1 : DEndpoint) (number2 : Int) (k : Int → Option γ) : impl_Endpoint_atK e1 number2 k = (impl_Endpoint_at e1 number2).bind k := by
  simp only [impl_Endpoint_atK, impl_Endpoint_at, B0, B1, B2, B3, B4, B5, B6, B7, B8, C1, C2, C3, C4, C5]

/-! loop.example/capkernel/impl.EndpointValid -/
noncomputable def impl_EndpointValid_l0K {γ : Type} (e2 : DEndpoint) (a3 : (List DWaiter)) (a4 : Int) (a5 : Int) (kn : DEndpoint × (List DWaiter) × Int × Int × Unit → Option γ) (kx : DEndpoint × Unit → Option γ) (kr : Bool × Unit → Option γ) : Option γ :=
 bif decide (a5 < a4) then
  nnK a5 fun i6 =>
  getK a3 i6 fun v7 =>
  (impl_Waiter_may (v7.1, v7.2.1, v7.2.2.1, v7.2.2.2.1, ())).bind fun r8 =>
  bif (!(!r8)) then
   (impl_Endpoint_at e2 v7.1).bind fun r9 =>
   bif (!(r9 != a5)) then
    bif decide (a5 > (0 : Int)) then
     nnK (IntKind.wrap .i64 (a5 - (1 : Int))) fun i10 =>
     getK e2.2.1 i10 fun v11 =>
     bif (!decide (v7.2.1 > v11.2.1)) then
      bif (!e2.1) then
       bif (!(v7.2.2.1 != (0 : Int))) then
        bif (v7.2.2.2.1 != (0 : Int)) then
         kr (false, ())
        else
        kn (e2, a3, a4, (IntKind.wrap .i64 (a5 + (1 : Int))), ())
       else
       kr (false, ())
      else
      kn (e2, a3, a4, (IntKind.wrap .i64 (a5 + (1 : Int))), ())
     else
     kr (false, ())
    else
    bif (!e2.1) then
     bif (!(v7.2.2.1 != (0 : Int))) then
      bif (v7.2.2.2.1 != (0 : Int)) then
       kr (false, ())
      else
      kn (e2, a3, a4, (IntKind.wrap .i64 (a5 + (1 : Int))), ())
     else
     kr (false, ())
    else
    kn (e2, a3, a4, (IntKind.wrap .i64 (a5 + (1 : Int))), ())
   else
   kr (false, ())
  else
  kr (false, ())
 else
 kx (e2, ())
noncomputable def impl_EndpointValid_l0 (x : DEndpoint × (List DWaiter) × Int × Int × Unit) : Option ((DEndpoint × (List DWaiter) × Int × Int × Unit) ⊕ ((DEndpoint × Unit) ⊕ (Bool × Unit))) :=
  impl_EndpointValid_l0K x.1 x.2.1 x.2.2.1 x.2.2.2.1 (fun y => some (.inl y)) (fun a => some (.inr (.inl a))) (fun b => some (.inr (.inr b)))
theorem impl_EndpointValid_l0_eq {γ : Type} (e2 : DEndpoint) (a3 : (List DWaiter)) (a4 : Int) (a5 : Int) (kn : DEndpoint × (List DWaiter) × Int × Int × Unit → Option γ) (kx : DEndpoint × Unit → Option γ) (kr : Bool × Unit → Option γ) : impl_EndpointValid_l0K e2 a3 a4 a5 kn kx kr = (impl_EndpointValid_l0 (e2, a3, a4, a5, ())).bind fun r => sum3K r kn kx kr := by
  simp only [impl_EndpointValid_l0K, impl_EndpointValid_l0, B0, B1, B2, B3, B4, B5, B6, B7, B8, C1, C2, C3, C4, C5]
noncomputable def impl_EndpointValidK {γ : Type} (e1 : DEndpoint) (k : Bool → Option γ) : Option γ :=
 (loopF impl_EndpointValid_l0 ((e1.1, e1.2.1, ()), e1.2.1, (e1.2.1.length : Int), (0 : Int), ())).bind fun q => endK q (fun z12 =>
  bif (!(!z12.1.1)) then
   k (decide ((z12.1.2.1.length : Int) > (0 : Int)))
  else
  k true) (fun z13 =>
  k z13.1)
noncomputable def impl_EndpointValid (e1 : DEndpoint) : Option (Bool) :=
  impl_EndpointValidK e1 some
theorem impl_EndpointValid_eq {γ : Type} (e1 : DEndpoint) (k : Bool → Option γ) : impl_EndpointValidK e1 k = (impl_EndpointValid e1).bind k := by
  simp only [impl_EndpointValidK, impl_EndpointValid, B0, B1, B2, B3, B4, B5, B6, B7, B8, C1, C2, C3, C4, C5]

/-! loop.example/capkernel/laws.eqWaiter -/
noncomputable def laws_eqWaiterK {γ : Type} (a1 : DWaiter) (b2 : DWaiter) (k : Bool → Option γ) : Option γ :=
 bif (a1.1 != b2.1) then
  k false
 else
 bif (a1.2.1 != b2.2.1) then
  k false
 else
 bif (a1.2.2.1 != b2.2.2.1) then
  k false
 else
 bif (a1.2.2.2.1 != b2.2.2.2.1) then
  k false
 else
 k true
noncomputable def laws_eqWaiter (a1 : DWaiter) (b2 : DWaiter) : Option (Bool) :=
  laws_eqWaiterK a1 b2 some
theorem laws_eqWaiter_eq {γ : Type} (a1 : DWaiter) (b2 : DWaiter) (k : Bool → Option γ) : laws_eqWaiterK a1 b2 k = (laws_eqWaiter a1 b2).bind k := by
  simp only [laws_eqWaiterK, laws_eqWaiter, B0, B1, B2, B3, B4, B5, B6, B7, B8, C1, C2, C3, C4, C5]

/-! loop.example/capkernel/laws.eqWaiterS -/
noncomputable def laws_eqWaiterS_l0K {γ : Type} (a3 : (List DWaiter)) (b4 : (List DWaiter)) (i5 : Int) (kn : (List DWaiter) × (List DWaiter) × Int × Unit → Option γ) (kx : Unit → Option γ) (kr : Bool × Unit → Option γ) : Option γ :=
 bif decide (i5 < (a3.length : Int)) then
  nnK i5 fun i6 =>
  getK a3 i6 fun v7 =>
  nnK i5 fun i8 =>
  getK b4 i8 fun v9 =>
  (laws_eqWaiter v7 v9).bind fun r10 =>
  bif (!r10) then
   kr (false, ())
  else
  kn (a3, b4, (IntKind.wrap .i64 (i5 + (1 : Int))), ())
 else
 kx ()
noncomputable def laws_eqWaiterS_l0 (x : (List DWaiter) × (List DWaiter) × Int × Unit) : Option (((List DWaiter) × (List DWaiter) × Int × Unit) ⊕ ((Unit) ⊕ (Bool × Unit))) :=
  laws_eqWaiterS_l0K x.1 x.2.1 x.2.2.1 (fun y => some (.inl y)) (fun a => some (.inr (.inl a))) (fun b => some (.inr (.inr b)))
theorem laws_eqWaiterS_l0_eq {γ : Type} (a3 : (List DWaiter)) (b4 : (List DWaiter)) (i5 : Int) (kn : (List DWaiter) × (List DWaiter) × Int × Unit → Option γ) (kx : Unit → Option γ) (kr : Bool × Unit → Option γ) : laws_eqWaiterS_l0K a3 b4 i5 kn kx kr = (laws_eqWaiterS_l0 (a3, b4, i5, ())).bind fun r => sum3K r kn kx kr := by
  simp only [laws_eqWaiterS_l0K, laws_eqWaiterS_l0, B0, B1, B2, B3, B4, B5, B6, B7, B8, C1, C2, C3, C4, C5]
noncomputable def laws_eqWaiterSK {γ : Type} (a1 : (List DWaiter)) (b2 : (List DWaiter)) (k : Bool → Option γ) : Option γ :=
 bif ((a1.length : Int) != (b2.length : Int)) then
  k false
 else
 (loopF laws_eqWaiterS_l0 (a1, b2, (0 : Int), ())).bind fun q => endK q (fun z11 =>
  k true) (fun z12 =>
  k z12.1)
noncomputable def laws_eqWaiterS (a1 : (List DWaiter)) (b2 : (List DWaiter)) : Option (Bool) :=
  laws_eqWaiterSK a1 b2 some
theorem laws_eqWaiterS_eq {γ : Type} (a1 : (List DWaiter)) (b2 : (List DWaiter)) (k : Bool → Option γ) : laws_eqWaiterSK a1 b2 k = (laws_eqWaiterS a1 b2).bind k := by
  simp only [laws_eqWaiterSK, laws_eqWaiterS, B0, B1, B2, B3, B4, B5, B6, B7, B8, C1, C2, C3, C4, C5]

/-! loop.example/capkernel/laws.eqEndpoint -/
noncomputable def laws_eqEndpointK {γ : Type} (a1 : DEndpoint) (b2 : DEndpoint) (k : Bool → Option γ) : Option γ :=
 bif (!(a1.1 == b2.1)) then
  k false
 else
 (laws_eqWaiterS a1.2.1 b2.2.1).bind fun r3 =>
 bif (!r3) then
  k false
 else
 k true
noncomputable def laws_eqEndpoint (a1 : DEndpoint) (b2 : DEndpoint) : Option (Bool) :=
  laws_eqEndpointK a1 b2 some
theorem laws_eqEndpoint_eq {γ : Type} (a1 : DEndpoint) (b2 : DEndpoint) (k : Bool → Option γ) : laws_eqEndpointK a1 b2 k = (laws_eqEndpoint a1 b2).bind k := by
  simp only [laws_eqEndpointK, laws_eqEndpoint, B0, B1, B2, B3, B4, B5, B6, B7, B8, C1, C2, C3, C4, C5]

/-! loop.example/capkernel/laws.FnExactEndpointValid -/
noncomputable def laws_FnExactEndpointValidK {γ : Type} (aE1 : DEndpoint) (k : Bool → Option γ) : Option γ :=
 (laws_szEndpoint (aE1.1, aE1.2.1, ()) (1048576 : Int)).bind fun r2 =>
 bif decide (r2 < (0 : Int)) then
  k true
 else
 (laws_toEndpoint (aE1.1, aE1.2.1, ())).bind fun r3 =>
 (spec_EndpointValid (r3.1, r3.2, ())).bind fun r4 =>
 (laws_toEndpoint (aE1.1, aE1.2.1, ())).bind fun r5 =>
 (impl_EndpointValid (r5.1, r5.2, ())).bind fun r6 =>
 bif (!(r6 == r4)) then
  k false
 else
 (laws_toEndpoint (aE1.1, aE1.2.1, ())).bind fun r7 =>
 (laws_eqEndpoint (r5.1, r5.2, ()) (r7.1, r7.2, ())).bind fun r8 =>
 bif (!r8) then
  k false
 else
 k true
noncomputable def laws_FnExactEndpointValid (aE1 : DEndpoint) : Option (Bool) :=
  laws_FnExactEndpointValidK aE1 some
theorem laws_FnExactEndpointValid_eq {γ : Type} (aE1 : DEndpoint) (k : Bool → Option γ) : laws_FnExactEndpointValidK aE1 k = (laws_FnExactEndpointValid aE1).bind k := by
  simp only [laws_FnExactEndpointValidK, laws_FnExactEndpointValid, B0, B1, B2, B3, B4, B5, B6, B7, B8, C1, C2, C3, C4, C5]

/-! loop.example/capkernel/spec.l20Open -/
noncomputable def spec_l20OpenK {γ : Type} (code1 : (List Int)) (k : Dl20Rd → Option γ) : Option γ :=
 bif decide ((code1.length : Int) > (2000 : Int)) then
  chk (2000 ≤ code1.length) <|
  k ((code1.take 2000), (0 : Int), ())
 else
 k (code1, (0 : Int), ())
noncomputable def spec_l20Open (code1 : (List Int)) : Option (Dl20Rd) :=
  spec_l20OpenK code1 some
theorem spec_l20Open_eq {γ : Type} (code1 : (List Int)) (k : Dl20Rd → Option γ) : spec_l20OpenK code1 k = (spec_l20Open code1).bind k := by
  simp only [spec_l20OpenK, spec_l20Open, B0, B1, B2, B3, B4, B5, B6, B7, B8, C1, C2, C3, C4, C5]

/-! (*loop.example/capkernel/spec.l20Rd).pick -/
noncomputable def spec_l20Rd_pickK {γ : Type} (n1 : Int) (b2 : Dl20Rd) (k : Int × Dl20Rd → Option γ) : Option γ :=
 bif (!decide (n1 < (1 : Int))) then
  bif ((b2.1.length : Int) == (0 : Int)) then
   k ((0 : Int), (b2.1, (IntKind.wrap .i64 (b2.2.1 + (1 : Int))), ()))
  else
  bif decide ((IntKind.wrap .i64 ((IntKind.wrap .i64 (b2.2.1 + (1 : Int))) - (1 : Int))) < (b2.1.length : Int)) then
   nnK (IntKind.wrap .i64 ((IntKind.wrap .i64 (b2.2.1 + (1 : Int))) - (1 : Int))) fun i3 =>
   getK b2.1 i3 fun v4 =>
   chk (n1 ≠ 0) <|
   k ((Int.tmod (IntKind.wrap .i64 (v4)) n1), (b2.1, (IntKind.wrap .i64 (b2.2.1 + (1 : Int))), ()))
  else
  chk ((b2.1.length : Int) ≠ 0) <|
  nnK (Int.tmod (IntKind.wrap .i64 ((IntKind.wrap .i64 (b2.2.1 + (1 : Int))) - (1 : Int))) (b2.1.length : Int)) fun i5 =>
  getK b2.1 i5 fun v6 =>
  chk ((b2.1.length : Int) ≠ 0) <|
  nnK (Int.tmod (IntKind.wrap .i64 ((IntKind.wrap .i64 ((IntKind.wrap .i64 ((IntKind.wrap .i64 (b2.2.1 + (1 : Int))) - (1 : Int))) * (7 : Int))) + (3 : Int))) (b2.1.length : Int)) fun i7 =>
  getK b2.1 i7 fun v8 =>
  chk ((b2.1.length : Int) ≠ 0) <|
  chk (n1 ≠ 0) <|
  k ((Int.tmod (IntKind.wrap .i64 (((BitVec.ofInt 64 (IntKind.wrap .i64 ((IntKind.wrap .i64 ((IntKind.wrap .i64 ((IntKind.wrap .i64 ((IntKind.wrap .i64 (v6)) * (131 : Int))) + (IntKind.wrap .i64 ((IntKind.wrap .i64 (v8)) * (1117 : Int))))) + (IntKind.wrap .i64 ((IntKind.wrap .i64 ((IntKind.wrap .i64 (b2.2.1 + (1 : Int))) - (1 : Int))) * (29 : Int))))) + (IntKind.wrap .i64 ((IntKind.wrap .i64 (Int.tdiv (IntKind.wrap .i64 ((IntKind.wrap .i64 (b2.2.1 + (1 : Int))) - (1 : Int))) (b2.1.length : Int))) * (53 : Int))))) ^^^ BitVec.ofInt 64 (IntKind.wrap .i64 (Int.tdiv (IntKind.wrap .i64 ((IntKind.wrap .i64 ((IntKind.wrap .i64 ((IntKind.wrap .i64 ((IntKind.wrap .i64 (v6)) * (131 : Int))) + (IntKind.wrap .i64 ((IntKind.wrap .i64 (v8)) * (1117 : Int))))) + (IntKind.wrap .i64 ((IntKind.wrap .i64 ((IntKind.wrap .i64 (b2.2.1 + (1 : Int))) - (1 : Int))) * (29 : Int))))) + (IntKind.wrap .i64 ((IntKind.wrap .i64 (Int.tdiv (IntKind.wrap .i64 ((IntKind.wrap .i64 (b2.2.1 + (1 : Int))) - (1 : Int))) (b2.1.length : Int))) * (53 : Int))))) (64 : Int)))).toNat : Int))) n1), (b2.1, (IntKind.wrap .i64 (b2.2.1 + (1 : Int))), ()))
 else
 k ((0 : Int), (b2.1, (IntKind.wrap .i64 (b2.2.1 + (1 : Int))), ()))
noncomputable def spec_l20Rd_pick (n1 : Int) (b2 : Dl20Rd) : Option (Int × Dl20Rd) :=
  spec_l20Rd_pickK n1 b2 some
theorem spec_l20Rd_pick_eq {γ : Type} (n1 : Int) (b2 : Dl20Rd) (k : Int × Dl20Rd → Option γ) : spec_l20Rd_pickK n1 b2 k = (spec_l20Rd_pick n1 b2).bind k := by
  simp only [spec_l20Rd_pickK, spec_l20Rd_pick, B0, B1, B2, B3, B4, B5, B6, B7, B8, C1, C2, C3, C4, C5]

/-! (*loop.example/capkernel/spec.l20Rd).odd -/
noncomputable def spec_l20Rd_oddK {γ : Type} (n1 : Int) (b2 : Dl20Rd) (k : Bool × Dl20Rd → Option γ) : Option γ :=
 bif decide (n1 > (0 : Int)) then
  (spec_l20Rd_pick n1 b2).bind fun r3 =>
  k ((r3.1 == (IntKind.wrap .i64 (n1 - (1 : Int)))), r3.2)
 else
 k (false, b2)
noncomputable def spec_l20Rd_odd (n1 : Int) (b2 : Dl20Rd) : Option (Bool × Dl20Rd) :=
  spec_l20Rd_oddK n1 b2 some
theorem spec_l20Rd_odd_eq {γ : Type} (n1 : Int) (b2 : Dl20Rd) (k : Bool × Dl20Rd → Option γ) : spec_l20Rd_oddK n1 b2 k = (spec_l20Rd_odd n1 b2).bind k := by
  simp only [spec_l20Rd_oddK, spec_l20Rd_odd, B0, B1, B2, B3, B4, B5, B6, B7, B8, C1, C2, C3, C4, C5]

/-! loop.example/capkernel/spec.l20Waiter -/
noncomputable def spec_l20WaiterK {γ : Type} (n1 : Int) (b2 : Dl20Rd) (k : DWaiter × Dl20Rd → Option γ) : Option γ :=
 (spec_l20Rd_pick (16 : Int) b2).bind fun r3 =>
 (spec_l20Rd_pick (4 : Int) r3.2).bind fun r4 =>
 (spec_l20Rd_pick (9 : Int) r4.2).bind fun r5 =>
 (spec_l20Rd_pick (50 : Int) r5.2).bind fun r6 =>
 (spec_l20Rd_odd n1 r6.2).bind fun r7 =>
 bif r7.1 then
  (spec_l20Rd_pick (3 : Int) r7.2).bind fun r8 =>
  bif (r8.1 == (0 : Int)) then
   (spec_l20Rd_pick (2 : Int) r8.2).bind fun r9 =>
   nnK r9.1 fun i10 =>
   getK [(-1 : Int), (16 : Int)] i10 fun v11 =>
   k ((v11, r4.1, r5.1, r6.1, ()), r9.2)
  else
  bif (r8.1 == (1 : Int)) then
   (spec_l20Rd_pick (2 : Int) r8.2).bind fun r12 =>
   nnK r12.1 fun i13 =>
   getK [(-1 : Int), (8 : Int)] i13 fun v14 =>
   k ((r3.1, v14, r5.1, r6.1, ()), r12.2)
  else
  (spec_l20Rd_pick (2 : Int) r8.2).bind fun r15 =>
  nnK r15.1 fun i16 =>
  getK [(-1 : Int), (1000 : Int)] i16 fun v17 =>
  k ((r3.1, r4.1, v17, r6.1, ()), r15.2)
 else
 k ((r3.1, r4.1, r5.1, r6.1, ()), r7.2)
noncomputable def spec_l20Waiter (n1 : Int) (b2 : Dl20Rd) : Option (DWaiter × Dl20Rd) :=
  spec_l20WaiterK n1 b2 some
theorem spec_l20Waiter_eq {γ : Type} (n1 : Int) (b2 : Dl20Rd) (k : DWaiter × Dl20Rd → Option γ) : spec_l20WaiterK n1 b2 k = (spec_l20Waiter n1 b2).bind k := by
  simp only [spec_l20WaiterK, spec_l20Waiter, B0, B1, B2, B3, B4, B5, B6, B7, B8, C1, C2, C3, C4, C5]

/-! loop.example/capkernel/spec.l10Has -/
noncomputable def spec_l10Has_l0K {γ : Type} (n3 : Int) (e4 : DEndpoint) (kq5 : Int) (kn : Int × DEndpoint × Int × Unit → Option γ) (kx : Unit → Option γ) (kr : Bool × Unit → Option γ) : Option γ :=
 bif decide (kq5 < (e4.2.1.length : Int)) then
  nnK kq5 fun i6 =>
  getK e4.2.1 i6 fun v7 =>
  bif (v7.1 == n3) then
   kr (true, ())
  else
  kn (n3, e4, (IntKind.wrap .i64 (kq5 + (1 : Int))), ())
 else
 kx ()
noncomputable def spec_l10Has_l0 (x : Int × DEndpoint × Int × Unit) : Option ((Int × DEndpoint × Int × Unit) ⊕ ((Unit) ⊕ (Bool × Unit))) :=
  spec_l10Has_l0K x.1 x.2.1 x.2.2.1 (fun y => some (.inl y)) (fun a => some (.inr (.inl a))) (fun b => some (.inr (.inr b)))
theorem spec_l10Has_l0_eq {γ : Type} (n3 : Int) (e4 : DEndpoint) (kq5 : Int) (kn : Int × DEndpoint × Int × Unit → Option γ) (kx : Unit → Option γ) (kr : Bool × Unit → Option γ) : spec_l10Has_l0K n3 e4 kq5 kn kx kr = (spec_l10Has_l0 (n3, e4, kq5, ())).bind fun r => sum3K r kn kx kr := by
  simp only [spec_l10Has_l0K, spec_l10Has_l0, B0, B1, B2, B3, B4, B5, B6, B7, B8, C1, C2, C3, C4, C5]
noncomputable def spec_l10HasK {γ : Type} (e1 : DEndpoint) (n2 : Int) (k : Bool → Option γ) : Option γ :=
 (loopF spec_l10Has_l0 (n2, (e1.1, e1.2.1, ()), (0 : Int), ())).bind fun q => endK q (fun z8 =>
  k false) (fun z9 =>
  k z9.1)
noncomputable def spec_l10Has (e1 : DEndpoint) (n2 : Int) : Option (Bool) :=
  spec_l10HasK e1 n2 some
theorem spec_l10Has_eq {γ : Type} (e1 : DEndpoint) (n2 : Int) (k : Bool → Option γ) : spec_l10HasK e1 n2 k = (spec_l10Has e1 n2).bind k := by
  simp only [spec_l10HasK, spec_l10Has, B0, B1, B2, B3, B4, B5, B6, B7, B8, C1, C2, C3, C4, C5]

/-! loop.example/capkernel/spec.l10Waiter -/
noncomputable def spec_l10WaiterK {γ : Type} (e1 : DEndpoint) (w2 : DWaiter) (k : Bool → Option γ) : Option γ :=
 (spec_EndpointValid (e1.1, e1.2.1, ())).bind fun r3 =>
 bif r3 then
  (spec_l1In w2.1 (0 : Int) (15 : Int)).bind fun r4 =>
  bif r4 then
   (spec_l1In w2.2.1 (0 : Int) (7 : Int)).bind fun r5 =>
   bif r5 then
    (spec_l1In w2.2.2.1 (0 : Int) (999 : Int)).bind fun r6 =>
    bif r6 then
     (spec_l10Has (e1.1, e1.2.1, ()) w2.1).bind fun r7 =>
     k (!r7)
    else
    k false
   else
   k false
  else
  k false
 else
 k false
noncomputable def spec_l10Waiter (e1 : DEndpoint) (w2 : DWaiter) : Option (Bool) :=
  spec_l10WaiterK e1 w2 some
theorem spec_l10Waiter_eq {γ : Type} (e1 : DEndpoint) (w2 : DWaiter) (k : Bool → Option γ) : spec_l10WaiterK e1 w2 k = (spec_l10Waiter e1 w2).bind k := by
  simp only [spec_l10WaiterK, spec_l10Waiter, B0, B1, B2, B3, B4, B5, B6, B7, B8, C1, C2, C3, C4, C5]

/-! loop.example/capkernel/spec.l10Queue -/
noncomputable def spec_l10Queue_l0K {γ : Type} (line3 : (List DWaiter)) (w4 : DWaiter) (atq5 : Int) (kn : (List DWaiter) × DWaiter × Int × Unit → Option γ) (kx : (List DWaiter) × DWaiter × Int × Unit → Option γ) : Option γ :=
 bif decide (atq5 > (0 : Int)) then
  nnK (IntKind.wrap .i64 (atq5 - (1 : Int))) fun i6 =>
  getK line3 i6 fun v7 =>
  bif decide (v7.2.1 < w4.2.1) then
   kn (line3, w4, (IntKind.wrap .i64 (atq5 - (1 : Int))), ())
  else
  kx (line3, w4, atq5, ())
 else
 kx (line3, w4, atq5, ())
noncomputable def spec_l10Queue_l0 (x : (List DWaiter) × DWaiter × Int × Unit) : Option (((List DWaiter) × DWaiter × Int × Unit) ⊕ ((List DWaiter) × DWaiter × Int × Unit)) :=
  spec_l10Queue_l0K x.1 x.2.1 x.2.2.1 (fun y => some (.inl y)) (fun a => some (.inr a))
theorem spec_l10Queue_l0_eq {γ : Type} (line3 : (List DWaiter)) (w4 : DWaiter) (atq5 : Int) (kn : (List DWaiter) × DWaiter × Int × Unit → Option γ) (kx : (List DWaiter) × DWaiter × Int × Unit → Option γ) : spec_l10Queue_l0K line3 w4 atq5 kn kx = (spec_l10Queue_l0 (line3, w4, atq5, ())).bind fun r => sum2K r kn kx := by
  simp only [spec_l10Queue_l0K, spec_l10Queue_l0, B0, B1, B2, B3, B4, B5, B6, B7, B8, C1, C2, C3, C4, C5]
noncomputable def spec_l10QueueK {γ : Type} (line1 : (List DWaiter)) (w2 : DWaiter) (k : (List DWaiter) → Option γ) : Option γ :=
 (loopF spec_l10Queue_l0 (line1, (w2.1, w2.2.1, w2.2.2.1, w2.2.2.2.1, ()), (line1.length : Int), ())).bind fun z8 =>
 nnK z8.2.2.1 fun i9 =>
 chk (i9 ≤ z8.1.length) <|
 chk ((z8.1.drop i9).length ≤ bigRow) <|
 nnK z8.2.2.1 fun i10 =>
 chk (i10 ≤ z8.1.length) <|
 chk ((z8.1.take i10).length ≤ bigRow) <|
 chk (((z8.1.take i10).length + 1) ≤ bigRow) <|
 chk ((((z8.1.take i10) ++ [z8.2.1]).length + (z8.1.drop i9).length) ≤ bigRow) <|
 k (((z8.1.take i10) ++ [z8.2.1]) ++ (z8.1.drop i9))
noncomputable def spec_l10Queue (line1 : (List DWaiter)) (w2 : DWaiter) : Option ((List DWaiter)) :=
  spec_l10QueueK line1 w2 some
theorem spec_l10Queue_eq {γ : Type} (line1 : (List DWaiter)) (w2 : DWaiter) (k : (List DWaiter) → Option γ) : spec_l10QueueK line1 w2 k = (spec_l10Queue line1 w2).bind k := by
  simp only [spec_l10QueueK, spec_l10Queue, B0, B1, B2, B3, B4, B5, B6, B7, B8, C1, C2, C3, C4, C5]

/-! loop.example/capkernel/spec.EndpointSend -/
noncomputable def spec_EndpointSendK {γ : Type} (e1 : DEndpoint) (w2 : DWaiter) (k : Bool × Int × (List DWaiter) → Option γ) : Option γ :=
 (spec_l10Waiter (e1.1, e1.2.1, ()) (w2.1, w2.2.1, w2.2.2.1, w2.2.2.2.1, ())).bind fun r3 =>
 bif (!r3) then
  k (false, (-1 : Int), [])
 else
 bif (!e1.1) then
  bif decide ((e1.2.1.length : Int) > (0 : Int)) then
   chk (1 ≤ e1.2.1.length) <|
   getK e1.2.1 0 fun v4 =>
   chk ((e1.2.1.drop 1).length ≤ bigRow) <|
   k (false, v4.1, (e1.2.1.drop 1))
  else
  (spec_l10Queue e1.2.1 (w2.1, w2.2.1, w2.2.2.1, w2.2.2.2.1, ())).bind fun r5 =>
  k (true, (-1 : Int), r5)
 else
 (spec_l10Queue e1.2.1 (w2.1, w2.2.1, w2.2.2.1, w2.2.2.2.1, ())).bind fun r6 =>
 k (true, (-1 : Int), r6)
noncomputable def spec_EndpointSend (e1 : DEndpoint) (w2 : DWaiter) : Option (Bool × Int × (List DWaiter)) :=
  spec_EndpointSendK e1 w2 some
theorem spec_EndpointSend_eq {γ : Type} (e1 : DEndpoint) (w2 : DWaiter) (k : Bool × Int × (List DWaiter) → Option γ) : spec_EndpointSendK e1 w2 k = (spec_EndpointSend e1 w2).bind k := by
  simp only [spec_EndpointSendK, spec_EndpointSend, B0, B1, B2, B3, B4, B5, B6, B7, B8, C1, C2, C3, C4, C5]

/-! loop.example/capkernel/spec.EndpointTake -/
noncomputable def spec_EndpointTakeK {γ : Type} (e1 : DEndpoint) (number2 : Int) (prio3 : Int) (k : Bool × DWaiter × Bool × (List DWaiter) → Option γ) : Option γ :=
 (spec_l10Waiter (e1.1, e1.2.1, ()) (number2, prio3, (0 : Int), (0 : Int), ())).bind fun r4 =>
 bif (!r4) then
  k (false, ((0 : Int), (0 : Int), (0 : Int), (0 : Int), ()), false, [])
 else
 bif e1.1 then
  chk (1 ≤ e1.2.1.length) <|
  getK e1.2.1 0 fun v5 =>
  chk ((e1.2.1.drop 1).length ≤ bigRow) <|
  k (decide ((e1.2.1.length : Int) > (1 : Int)), (v5.1, v5.2.1, v5.2.2.1, v5.2.2.2.1, ()), true, (e1.2.1.drop 1))
 else
 (spec_l10Queue e1.2.1 (number2, prio3, (0 : Int), (0 : Int), ())).bind fun r6 =>
 k (false, ((0 : Int), (0 : Int), (0 : Int), (0 : Int), ()), false, r6)
noncomputable def spec_EndpointTake (e1 : DEndpoint) (number2 : Int) (prio3 : Int) : Option (Bool × DWaiter × Bool × (List DWaiter)) :=
  spec_EndpointTakeK e1 number2 prio3 some
theorem spec_EndpointTake_eq {γ : Type} (e1 : DEndpoint) (number2 : Int) (prio3 : Int) (k : Bool × DWaiter × Bool × (List DWaiter) → Option γ) : spec_EndpointTakeK e1 number2 prio3 k = (spec_EndpointTake e1 number2 prio3).bind k := by
  simp only [spec_EndpointTakeK, spec_EndpointTake, B0, B1, B2, B3, B4, B5, B6, B7, B8, C1, C2, C3, C4, C5]

/-! loop.example/capkernel/spec.l20Endpoint -/
noncomputable def spec_l20Endpoint_l0K {γ : Type} (n5 : Int) (way6 : Int) (kq7 : Int) (b8 : Dl20Rd) (b9 : Bool) (b10 : Bool) (b11 : (List DWaiter)) (b12 : (List DWaiter)) (kn : Int × Int × Int × Dl20Rd × Bool × Bool × (List DWaiter) × (List DWaiter) × Unit → Option γ) (kx : Int × Dl20Rd × Bool × Bool × (List DWaiter) × (List DWaiter) × Unit → Option γ) : Option γ :=
 bif decide (kq7 > (0 : Int)) then
  (spec_l20Waiter (0 : Int) b8).bind fun r13 =>
  (spec_l10Has (b10, b12, ()) r13.1.1).bind fun r14 =>
  bif r14 then
   kn (n5, way6, (IntKind.wrap .i64 (kq7 - (1 : Int))), r13.2, b9, b10, b11, b12, ())
  else
  bif (way6 == (0 : Int)) then
   (spec_EndpointSend (b10, b12, ()) (r13.1.1, r13.1.2.1, r13.1.2.2.1, r13.1.2.2.2.1, ())).bind fun r15 =>
   kn (n5, way6, (IntKind.wrap .i64 (kq7 - (1 : Int))), r13.2, b9, r15.1, b11, r15.2.2, ())
  else
  (spec_EndpointTake (b10, b12, ()) r13.1.1 r13.1.2.1).bind fun r16 =>
  kn (n5, way6, (IntKind.wrap .i64 (kq7 - (1 : Int))), r13.2, b9, r16.1, b11, r16.2.2.2, ())
 else
 kx (n5, b8, b9, b10, b11, b12, ())
noncomputable def spec_l20Endpoint_l0 (x : Int × Int × Int × Dl20Rd × Bool × Bool × (List DWaiter) × (List DWaiter) × Unit) : Option ((Int × Int × Int × Dl20Rd × Bool × Bool × (List DWaiter) × (List DWaiter) × Unit) ⊕ (Int × Dl20Rd × Bool × Bool × (List DWaiter) × (List DWaiter) × Unit)) :=
  spec_l20Endpoint_l0K x.1 x.2.1 x.2.2.1 x.2.2.2.1 x.2.2.2.2.1 x.2.2.2.2.2.1 x.2.2.2.2.2.2.1 x.2.2.2.2.2.2.2.1 (fun y => some (.inl y)) (fun a => some (.inr a))
theorem spec_l20Endpoint_l0_eq {γ : Type} (n5 : Int) (way6 : Int) (kq7 : Int) (b8 : Dl20Rd) (b9 : Bool) (b10 : Bool) (b11 : (List DWaiter)) (b12 : (List DWaiter)) (kn : Int × Int × Int × Dl20Rd × Bool × Bool × (List DWaiter) × (List DWaiter) × Unit → Option γ) (kx : Int × Dl20Rd × Bool × Bool × (List DWaiter) × (List DWaiter) × Unit → Option γ) : spec_l20Endpoint_l0K n5 way6 kq7 b8 b9 b10 b11 b12 kn kx = (spec_l20Endpoint_l0 (n5, way6, kq7, b8, b9, b10, b11, b12, ())).bind fun r => sum2K r kn kx := by
  simp only [spec_l20Endpoint_l0K, spec_l20Endpoint_l0, B0, B1, B2, B3, B4, B5, B6, B7, B8, C1, C2, C3, C4, C5]
noncomputable def spec_l20EndpointK {γ : Type} (n1 : Int) (b2 : Dl20Rd) (k : Bool × Dl20Rd × (List DWaiter) → Option γ) : Option γ :=
 (spec_l20Rd_pick (2 : Int) b2).bind fun r3 =>
 (spec_l20Rd_pick (8 : Int) r3.2).bind fun r4 =>
 (loopF spec_l20Endpoint_l0 (n1, r3.1, r4.1, r4.2, false, false, [], [], ())).bind fun z17 =>
 (spec_l20Rd_odd z17.1 z17.2.1).bind fun r18 =>
 bif r18.1 then
  (spec_l20Rd_pick (3 : Int) r18.2).bind fun r19 =>
  bif (r19.1 == (0 : Int)) then
   chk ((z17.2.2.2.2.2.1.length + 2) ≤ bigRow) <|
   k (z17.2.2.2.1, r19.2, (z17.2.2.2.2.2.1 ++ [((3 : Int), (0 : Int), (0 : Int), (0 : Int), ()), ((3 : Int), (0 : Int), (0 : Int), (0 : Int), ())]))
  else
  bif (r19.1 == (1 : Int)) then
   chk ((z17.2.2.2.2.2.1.length + 1) ≤ bigRow) <|
   k (z17.2.2.2.1, r19.2, (z17.2.2.2.2.2.1 ++ [((1 : Int), (8 : Int), (0 : Int), (0 : Int), ())]))
  else
  k (true, r19.2, [])
 else
 k (z17.2.2.2.1, r18.2, z17.2.2.2.2.2.1)
noncomputable def spec_l20Endpoint (n1 : Int) (b2 : Dl20Rd) : Option (Bool × Dl20Rd × (List DWaiter)) :=
  spec_l20EndpointK n1 b2 some
theorem spec_l20Endpoint_eq {γ : Type} (n1 : Int) (b2 : Dl20Rd) (k : Bool × Dl20Rd × (List DWaiter) → Option γ) : spec_l20EndpointK n1 b2 k = (spec_l20Endpoint n1 b2).bind k := by
  simp only [spec_l20EndpointK, spec_l20Endpoint, B0, B1, B2, B3, B4, B5, B6, B7, B8, C1, C2, C3, C4, C5]

/-! loop.example/capkernel/spec.DrawEndpointValid -/
noncomputable def spec_DrawEndpointValidK {γ : Type} (code1 : (List Int)) (k : Bool × (List DWaiter) → Option γ) : Option γ :=
 (spec_l20Open code1).bind fun r2 =>
 (spec_l20Endpoint (2 : Int) r2).bind fun r3 =>
 k (r3.1, r3.2.2)
noncomputable def spec_DrawEndpointValid (code1 : (List Int)) : Option (Bool × (List DWaiter)) :=
  spec_DrawEndpointValidK code1 some
theorem spec_DrawEndpointValid_eq {γ : Type} (code1 : (List Int)) (k : Bool × (List DWaiter) → Option γ) : spec_DrawEndpointValidK code1 k = (spec_DrawEndpointValid code1).bind k := by
  simp only [spec_DrawEndpointValidK, spec_DrawEndpointValid, B0, B1, B2, B3, B4, B5, B6, B7, B8, C1, C2, C3, C4, C5]

/-! loop.example/capkernel/laws.alive -/
noncomputable def laws_aliveK {γ : Type}  (k : Bool → Option γ) : Option γ :=
 k true
noncomputable def laws_alive  : Option (Bool) :=
  laws_aliveK  some
theorem laws_alive_eq {γ : Type}  (k : Bool → Option γ) : laws_aliveK  k = (laws_alive ).bind k := by
  simp only [laws_aliveK, laws_alive, B0, B1, B2, B3, B4, B5, B6, B7, B8, C1, C2, C3, C4, C5]

/-! loop.example/capkernel/laws.FnEndpointValid -/
noncomputable def laws_FnEndpointValidK {γ : Type} (code1 : (List Int)) (k : Bool → Option γ) : Option γ :=
 bif decide ((code1.length : Int) > (1048576 : Int)) then
  k true
 else
 (spec_DrawEndpointValid code1).bind fun r2 =>
 (impl_EndpointValid (r2.1, r2.2, ())).bind fun r3 =>
 (spec_EndpointValid (r2.1, r2.2, ())).bind fun r4 =>
 bif (!(r3 == r4)) then
  k false
 else
 bif (!(!r3)) then
  bif ((r2.2.length : Int) == (0 : Int)) then
   (laws_alive).bind fun r5 =>
   k r5
  else
  nnK (IntKind.wrap .i64 ((r2.2.length : Int) - (1 : Int))) fun i6 =>
  getK r2.2 i6 fun v7 =>
  chk (r2.2.length ≤ bigRow) <|
  chk ((r2.2.length + 1) ≤ bigRow) <|
  chk (1 ≤ r2.2.length) <|
  (impl_EndpointValid (r2.1, (r2.2.take 1), ())).bind fun r8 =>
  bif r8 then
   (impl_EndpointValid (r2.1, (r2.2 ++ [v7]), ())).bind fun r9 =>
   k (!r9)
  else
  k false
 else
 (laws_alive).bind fun r10 =>
 k r10
noncomputable def laws_FnEndpointValid (code1 : (List Int)) : Option (Bool) :=
  laws_FnEndpointValidK code1 some
theorem laws_FnEndpointValid_eq {γ : Type} (code1 : (List Int)) (k : Bool → Option γ) : laws_FnEndpointValidK code1 k = (laws_FnEndpointValid code1).bind k := by
  simp only [laws_FnEndpointValidK, laws_FnEndpointValid, B0, B1, B2, B3, B4, B5, B6, B7, B8, C1, C2, C3, C4, C5]

/-! loop.example/capkernel/spec.EndpointCancel -/
noncomputable def spec_EndpointCancel_l0K {γ : Type} (number4 : Int) (e5 : DEndpoint) (kq6 : Int) (b7 : Bool) (b8 : Bool) (b9 : (List DWaiter)) (b10 : (List DWaiter)) (kn : Int × DEndpoint × Int × Bool × Bool × (List DWaiter) × (List DWaiter) × Unit → Option γ) (kx : DEndpoint × Bool × Bool × (List DWaiter) × (List DWaiter) × Unit → Option γ) : Option γ :=
 bif decide (kq6 < (e5.2.1.length : Int)) then
  nnK kq6 fun i11 =>
  getK e5.2.1 i11 fun v12 =>
  bif (v12.1 != number4) then
   nnK kq6 fun i13 =>
   getK e5.2.1 i13 fun v14 =>
   chk ((b10.length + 1) ≤ bigRow) <|
   kn (number4, e5, (IntKind.wrap .i64 (kq6 + (1 : Int))), b7, b8, b9, (b10 ++ [v14]), ())
  else
  kn (number4, e5, (IntKind.wrap .i64 (kq6 + (1 : Int))), b7, b8, b9, b10, ())
 else
 kx (e5, b7, b8, b9, b10, ())
noncomputable def spec_EndpointCancel_l0 (x : Int × DEndpoint × Int × Bool × Bool × (List DWaiter) × (List DWaiter) × Unit) : Option ((Int × DEndpoint × Int × Bool × Bool × (List DWaiter) × (List DWaiter) × Unit) ⊕ (DEndpoint × Bool × Bool × (List DWaiter) × (List DWaiter) × Unit)) :=
  spec_EndpointCancel_l0K x.1 x.2.1 x.2.2.1 x.2.2.2.1 x.2.2.2.2.1 x.2.2.2.2.2.1 x.2.2.2.2.2.2.1 (fun y => some (.inl y)) (fun a => some (.inr a))
theorem spec_EndpointCancel_l0_eq {γ : Type} (number4 : Int) (e5 : DEndpoint) (kq6 : Int) (b7 : Bool) (b8 : Bool) (b9 : (List DWaiter)) (b10 : (List DWaiter)) (kn : Int × DEndpoint × Int × Bool × Bool × (List DWaiter) × (List DWaiter) × Unit → Option γ) (kx : DEndpoint × Bool × Bool × (List DWaiter) × (List DWaiter) × Unit → Option γ) : spec_EndpointCancel_l0K number4 e5 kq6 b7 b8 b9 b10 kn kx = (spec_EndpointCancel_l0 (number4, e5, kq6, b7, b8, b9, b10, ())).bind fun r => sum2K r kn kx := by
  simp only [spec_EndpointCancel_l0K, spec_EndpointCancel_l0, B0, B1, B2, B3, B4, B5, B6, B7, B8, C1, C2, C3, C4, C5]
noncomputable def spec_EndpointCancelK {γ : Type} (e1 : DEndpoint) (number2 : Int) (k : Bool × Bool × (List DWaiter) → Option γ) : Option γ :=
 (spec_EndpointValid (e1.1, e1.2.1, ())).bind fun r3 =>
 bif (!r3) then
  k (false, false, [])
 else
 (loopF spec_EndpointCancel_l0 (number2, (e1.1, e1.2.1, ()), (0 : Int), false, false, [], [], ())).bind fun z15 =>
 bif z15.1.1 then
  k (decide ((z15.2.2.2.2.1.length : Int) > (0 : Int)), decide ((z15.2.2.2.2.1.length : Int) < (z15.1.2.1.length : Int)), z15.2.2.2.2.1)
 else
 k (false, decide ((z15.2.2.2.2.1.length : Int) < (z15.1.2.1.length : Int)), z15.2.2.2.2.1)
noncomputable def spec_EndpointCancel (e1 : DEndpoint) (number2 : Int) : Option (Bool × Bool × (List DWaiter)) :=
  spec_EndpointCancelK e1 number2 some
theorem spec_EndpointCancel_eq {γ : Type} (e1 : DEndpoint) (number2 : Int) (k : Bool × Bool × (List DWaiter) → Option γ) : spec_EndpointCancelK e1 number2 k = (spec_EndpointCancel e1 number2).bind k := by
  simp only [spec_EndpointCancelK, spec_EndpointCancel, B0, B1, B2, B3, B4, B5, B6, B7, B8, C1, C2, C3, C4, C5]

/-! slices.Clone(()loop.example/capkernel/impl.Waiter,loop.example/capkernel/impl.Waiter) -/
noncomputable def slices_Clone_WaiterR {γ : Type} (sq1 : (List DWaiter)) (k : (List DWaiter) → Option γ) : Option γ :=
 bif sq1.isEmpty then both
  (k [])
  (chk (sq1.length ≤ bigRow) <|
  k sq1)
 else
 chk (sq1.length ≤ bigRow) <|
 k sq1
noncomputable def slices_Clone_WaiterK {γ : Type} (sq1 : (List DWaiter)) (k : (List DWaiter) → Option γ) : Option γ :=
  chk (sq1.length ≤ bigRow) (k sq1)
theorem slices_Clone_Waiter_raw {γ : Type} (sq1 : (List DWaiter)) (k : (List DWaiter) → Option γ) : slices_Clone_WaiterR sq1 k = slices_Clone_WaiterK sq1 k := by
  cases sq1 with
  | nil => simp [slices_Clone_WaiterR, slices_Clone_WaiterK, both, chk, bigRow]
  | cons a r => simp [slices_Clone_WaiterR, slices_Clone_WaiterK, chk]
noncomputable def slices_Clone_Waiter (sq1 : (List DWaiter)) : Option ((List DWaiter)) :=
  slices_Clone_WaiterK sq1 some
theorem slices_Clone_Waiter_eq {γ : Type} (sq1 : (List DWaiter)) (k : (List DWaiter) → Option γ) : slices_Clone_WaiterK sq1 k = (slices_Clone_Waiter sq1).bind k := by
  simp only [slices_Clone_WaiterK, slices_Clone_Waiter, B0, B1, B2, B3, B4, B5, B6, B7, B8, C1, C2, C3, C4, C5]

/-! slices.Clip(()loop.example/capkernel/impl.Waiter,loop.example/capkernel/impl.Waiter) -/
noncomputable def slices_Clip_WaiterK {γ : Type} (b1 : (List DWaiter)) (k : (List DWaiter) → Option γ) : Option γ :=
 chk (0 ≤ b1.length ∧ b1.length ≤ b1.length ∧ b1.length ≤ b1.length) <|
 chk (0 = 0 ∧ b1.length = b1.length) <|
 k b1
noncomputable def slices_Clip_Waiter (b1 : (List DWaiter)) : Option ((List DWaiter)) :=
  slices_Clip_WaiterK b1 some
theorem slices_Clip_Waiter_eq {γ : Type} (b1 : (List DWaiter)) (k : (List DWaiter) → Option γ) : slices_Clip_WaiterK b1 k = (slices_Clip_Waiter b1).bind k := by
  simp only [slices_Clip_WaiterK, slices_Clip_Waiter, B0, B1, B2, B3, B4, B5, B6, B7, B8, C1, C2, C3, C4, C5]

/-! loop.example/capkernel/impl.clone(loop.example/capkernel/impl.Waiter) -/
noncomputable def impl_clone_WaiterK {γ : Type} (list1 : (List DWaiter)) (k : (List DWaiter) → Option γ) : Option γ :=
 (slices_Clone_Waiter list1).bind fun r2 =>
 (slices_Clip_Waiter r2).bind fun r3 =>
 k r3
noncomputable def impl_clone_Waiter (list1 : (List DWaiter)) : Option ((List DWaiter)) :=
  impl_clone_WaiterK list1 some
theorem impl_clone_Waiter_eq {γ : Type} (list1 : (List DWaiter)) (k : (List DWaiter) → Option γ) : impl_clone_WaiterK list1 k = (impl_clone_Waiter list1).bind k := by
  simp only [impl_clone_WaiterK, impl_clone_Waiter, B0, B1, B2, B3, B4, B5, B6, B7, B8, C1, C2, C3, C4, C5]

/-! slices.Delete(()loop.example/capkernel/impl.Waiter,loop.example/capkernel/impl.Waiter) -/
noncomputable def slices_Delete_WaiterK {γ : Type} (i1 : Int) (j2 : Int) (b3 : (List DWaiter)) (k : Nat × (List DWaiter) → Option γ) : Option γ :=
 nnK i1 fun i4 =>
 nnK j2 fun i5 =>
 chk (i4 ≤ i5 ∧ i5 ≤ b3.length ∧ b3.length ≤ b3.length) <|
 bif (i1 == j2) then
  k (b3.length, b3)
 else
 nnK i1 fun i6 =>
 chk (i6 ≤ b3.length) <|
 nnK j2 fun i7 =>
 chk (i7 ≤ b3.length) <|
 chk (((0 + i6) + ((b3.drop i7).take (b3.length - i7)).length) ≤ b3.length) <|
 chk ((i6 + ((b3.drop i7).take (b3.length - i7)).length) ≤ b3.length ∧ (0 + b3.length) ≤ (over b3 (0 + i6) ((b3.drop i7).take (b3.length - i7))).length) <|
 k ((i6 + ((b3.drop i7).take (b3.length - i7)).length), (over (over b3 (0 + i6) ((b3.drop i7).take (b3.length - i7))) (0 + (i6 + ((b3.drop i7).take (b3.length - i7)).length)) (List.replicate (b3.length - (i6 + ((b3.drop i7).take (b3.length - i7)).length)) ((0 : Int), (0 : Int), (0 : Int), (0 : Int), ()))))
noncomputable def slices_Delete_Waiter (i1 : Int) (j2 : Int) (b3 : (List DWaiter)) : Option (Nat × (List DWaiter)) :=
  slices_Delete_WaiterK i1 j2 b3 some
theorem slices_Delete_Waiter_eq {γ : Type} (i1 : Int) (j2 : Int) (b3 : (List DWaiter)) (k : Nat × (List DWaiter) → Option γ) : slices_Delete_WaiterK i1 j2 b3 k = (slices_Delete_Waiter i1 j2 b3).bind k := by
  simp only [slices_Delete_WaiterK, slices_Delete_Waiter, B0, B1, B2, B3, B4, B5, B6, B7, B8, C1, C2, C3, C4, C5]

/-! (loop.example/capkernel/impl.Endpoint).without -/
noncomputable def impl_Endpoint_withoutK {γ : Type} (e1 : DEndpoint) (atq2 : Int) (k : Bool × (List DWaiter) → Option γ) : Option γ :=
 (slices_Clone_Waiter e1.2.1).bind fun r3 =>
 (slices_Delete_Waiter atq2 (IntKind.wrap .i64 (atq2 + (1 : Int))) r3).bind fun r4 =>
 (impl_clone_Waiter ((r4.2.drop 0).take r4.1)).bind fun r5 =>
 bif e1.1 then
  k (decide ((r5.length : Int) > (0 : Int)), r5)
 else
 k (false, r5)
noncomputable def impl_Endpoint_without (e1 : DEndpoint) (atq2 : Int) : Option (Bool × (List DWaiter)) :=
  impl_Endpoint_withoutK e1 atq2 some
theorem impl_Endpoint_without_eq {γ : Type} (e1 : DEndpoint) (atq2 : Int) (k : Bool × (List DWaiter) → Option γ) : impl_Endpoint_withoutK e1 atq2 k = (impl_Endpoint_without e1 atq2).bind k := by
  simp only [impl_Endpoint_withoutK, impl_Endpoint_without, B0, B1, B2, B3, B4, B5, B6, B7, B8, C1, C2, C3, C4, C5]

/-! loop.example/capkernel/impl.EndpointCancel -/
noncomputable def impl_EndpointCancelK {γ : Type} (e1 : DEndpoint) (number2 : Int) (k : Bool × Bool × (List DWaiter) → Option γ) : Option γ :=
 (impl_EndpointValid (e1.1, e1.2.1, ())).bind fun r3 =>
 bif (!r3) then
  k (false, false, [])
 else
 (impl_Endpoint_at (e1.1, e1.2.1, ()) number2).bind fun r4 =>
 bif decide (r4 < (0 : Int)) then
  (impl_clone_Waiter e1.2.1).bind fun r5 =>
  k (e1.1, false, r5)
 else
 (impl_Endpoint_without (e1.1, e1.2.1, ()) r4).bind fun r6 =>
 k (r6.1, true, r6.2)
noncomputable def impl_EndpointCancel (e1 : DEndpoint) (number2 : Int) : Option (Bool × Bool × (List DWaiter)) :=
  impl_EndpointCancelK e1 number2 some
theorem impl_EndpointCancel_eq {γ : Type} (e1 : DEndpoint) (number2 : Int) (k : Bool × Bool × (List DWaiter) → Option γ) : impl_EndpointCancelK e1 number2 k = (impl_EndpointCancel e1 number2).bind k := by
  simp only [impl_EndpointCancelK, impl_EndpointCancel, B0, B1, B2, B3, B4, B5, B6, B7, B8, C1, C2, C3, C4, C5]

/-! loop.example/capkernel/laws.markWaiterS -/
noncomputable def laws_markWaiterS_l0K {γ : Type} (kq3 : Int) (i4 : Int) (b5 : (List DWaiter)) (kn : Int × Int × (List DWaiter) × Unit → Option γ) (kx : Int × (List DWaiter) × Unit → Option γ) : Option γ :=
 bif decide (i4 < (b5.length : Int)) then
  nnK i4 fun i6 =>
  chk (i6 < b5.length) <|
  getK b5 i6 fun y7 =>
  nnK i4 fun i8 =>
  chk (i8 < (b5.set i6 (kq3, y7.2.1, y7.2.2.1, y7.2.2.2.1, ())).length) <|
  getK (b5.set i6 (kq3, y7.2.1, y7.2.2.1, y7.2.2.2.1, ())) i8 fun y9 =>
  nnK i4 fun i10 =>
  chk (i10 < ((b5.set i6 (kq3, y7.2.1, y7.2.2.1, y7.2.2.2.1, ())).set i8 (y9.1, (IntKind.wrap .i64 (kq3 + (1 : Int))), y9.2.2.1, y9.2.2.2.1, ())).length) <|
  getK ((b5.set i6 (kq3, y7.2.1, y7.2.2.1, y7.2.2.2.1, ())).set i8 (y9.1, (IntKind.wrap .i64 (kq3 + (1 : Int))), y9.2.2.1, y9.2.2.2.1, ())) i10 fun y11 =>
  nnK i4 fun i12 =>
  chk (i12 < (((b5.set i6 (kq3, y7.2.1, y7.2.2.1, y7.2.2.2.1, ())).set i8 (y9.1, (IntKind.wrap .i64 (kq3 + (1 : Int))), y9.2.2.1, y9.2.2.2.1, ())).set i10 (y11.1, y11.2.1, (IntKind.wrap .i64 ((IntKind.wrap .i64 (kq3 + (1 : Int))) + (1 : Int))), y11.2.2.2.1, ())).length) <|
  getK (((b5.set i6 (kq3, y7.2.1, y7.2.2.1, y7.2.2.2.1, ())).set i8 (y9.1, (IntKind.wrap .i64 (kq3 + (1 : Int))), y9.2.2.1, y9.2.2.2.1, ())).set i10 (y11.1, y11.2.1, (IntKind.wrap .i64 ((IntKind.wrap .i64 (kq3 + (1 : Int))) + (1 : Int))), y11.2.2.2.1, ())) i12 fun y13 =>
  kn ((IntKind.wrap .i64 ((IntKind.wrap .i64 ((IntKind.wrap .i64 ((IntKind.wrap .i64 (kq3 + (1 : Int))) + (1 : Int))) + (1 : Int))) + (1 : Int))), (IntKind.wrap .i64 (i4 + (1 : Int))), ((((b5.set i6 (kq3, y7.2.1, y7.2.2.1, y7.2.2.2.1, ())).set i8 (y9.1, (IntKind.wrap .i64 (kq3 + (1 : Int))), y9.2.2.1, y9.2.2.2.1, ())).set i10 (y11.1, y11.2.1, (IntKind.wrap .i64 ((IntKind.wrap .i64 (kq3 + (1 : Int))) + (1 : Int))), y11.2.2.2.1, ())).set i12 (y13.1, y13.2.1, y13.2.2.1, (IntKind.wrap .i64 ((IntKind.wrap .i64 ((IntKind.wrap .i64 (kq3 + (1 : Int))) + (1 : Int))) + (1 : Int))), ())), ())
 else
 kx (kq3, b5, ())
noncomputable def laws_markWaiterS_l0 (x : Int × Int × (List DWaiter) × Unit) : Option ((Int × Int × (List DWaiter) × Unit) ⊕ (Int × (List DWaiter) × Unit)) :=
  laws_markWaiterS_l0K x.1 x.2.1 x.2.2.1 (fun y => some (.inl y)) (fun a => some (.inr a))
theorem laws_markWaiterS_l0_eq {γ : Type} (kq3 : Int) (i4 : Int) (b5 : (List DWaiter)) (kn : Int × Int × (List DWaiter) × Unit → Option γ) (kx : Int × (List DWaiter) × Unit → Option γ) : laws_markWaiterS_l0K kq3 i4 b5 kn kx = (laws_markWaiterS_l0 (kq3, i4, b5, ())).bind fun r => sum2K r kn kx := by
  simp only [laws_markWaiterS_l0K, laws_markWaiterS_l0, B0, B1, B2, B3, B4, B5, B6, B7, B8, C1, C2, C3, C4, C5]
noncomputable def laws_markWaiterSK {γ : Type} (kq1 : Int) (b2 : (List DWaiter)) (k : Int × (List DWaiter) → Option γ) : Option γ :=
 (loopF laws_markWaiterS_l0 (kq1, (0 : Int), b2, ())).bind fun z14 =>
 k (z14.1, z14.2.1)
noncomputable def laws_markWaiterS (kq1 : Int) (b2 : (List DWaiter)) : Option (Int × (List DWaiter)) :=
  laws_markWaiterSK kq1 b2 some
theorem laws_markWaiterS_eq {γ : Type} (kq1 : Int) (b2 : (List DWaiter)) (k : Int × (List DWaiter) → Option γ) : laws_markWaiterSK kq1 b2 k = (laws_markWaiterS kq1 b2).bind k := by
  simp only [laws_markWaiterSK, laws_markWaiterS, B0, B1, B2, B3, B4, B5, B6, B7, B8, C1, C2, C3, C4, C5]

/-! loop.example/capkernel/laws.markEndpoint -/
noncomputable def laws_markEndpointK {γ : Type} (a1 : Bool) (kq2 : Int) (b3 : (List DWaiter)) (k : Int × (List DWaiter) → Option γ) : Option γ :=
 (laws_markWaiterS kq2 b3).bind fun r4 =>
 k (r4.1, r4.2)
noncomputable def laws_markEndpoint (a1 : Bool) (kq2 : Int) (b3 : (List DWaiter)) : Option (Int × (List DWaiter)) :=
  laws_markEndpointK a1 kq2 b3 some
theorem laws_markEndpoint_eq {γ : Type} (a1 : Bool) (kq2 : Int) (b3 : (List DWaiter)) (k : Int × (List DWaiter) → Option γ) : laws_markEndpointK a1 kq2 b3 k = (laws_markEndpoint a1 kq2 b3).bind k := by
  simp only [laws_markEndpointK, laws_markEndpoint, B0, B1, B2, B3, B4, B5, B6, B7, B8, C1, C2, C3, C4, C5]

/-! loop.example/capkernel/laws.heldWaiterS -/
noncomputable def laws_heldWaiterS_l0K {γ : Type} (a3 : (List DWaiter)) (kq4 : Int) (i5 : Int) (kn : (List DWaiter) × Int × Int × Unit → Option γ) (kx : Int × Unit → Option γ) (kr : Int × Unit → Option γ) : Option γ :=
 bif decide (i5 < (a3.length : Int)) then
  nnK i5 fun i6 =>
  getK a3 i6 fun v7 =>
  bif (v7.1 != kq4) then
   kr ((-1 : Int), ())
  else
  nnK i5 fun i8 =>
  getK a3 i8 fun v9 =>
  bif (v9.2.1 != (IntKind.wrap .i64 (kq4 + (1 : Int)))) then
   kr ((-1 : Int), ())
  else
  nnK i5 fun i10 =>
  getK a3 i10 fun v11 =>
  bif (v11.2.2.1 != (IntKind.wrap .i64 ((IntKind.wrap .i64 (kq4 + (1 : Int))) + (1 : Int)))) then
   kr ((-1 : Int), ())
  else
  nnK i5 fun i12 =>
  getK a3 i12 fun v13 =>
  bif (v13.2.2.2.1 != (IntKind.wrap .i64 ((IntKind.wrap .i64 ((IntKind.wrap .i64 (kq4 + (1 : Int))) + (1 : Int))) + (1 : Int)))) then
   kr ((-1 : Int), ())
  else
  kn (a3, (IntKind.wrap .i64 ((IntKind.wrap .i64 ((IntKind.wrap .i64 ((IntKind.wrap .i64 (kq4 + (1 : Int))) + (1 : Int))) + (1 : Int))) + (1 : Int))), (IntKind.wrap .i64 (i5 + (1 : Int))), ())
 else
 kx (kq4, ())
noncomputable def laws_heldWaiterS_l0 (x : (List DWaiter) × Int × Int × Unit) : Option (((List DWaiter) × Int × Int × Unit) ⊕ ((Int × Unit) ⊕ (Int × Unit))) :=
  laws_heldWaiterS_l0K x.1 x.2.1 x.2.2.1 (fun y => some (.inl y)) (fun a => some (.inr (.inl a))) (fun b => some (.inr (.inr b)))
theorem laws_heldWaiterS_l0_eq {γ : Type} (a3 : (List DWaiter)) (kq4 : Int) (i5 : Int) (kn : (List DWaiter) × Int × Int × Unit → Option γ) (kx : Int × Unit → Option γ) (kr : Int × Unit → Option γ) : laws_heldWaiterS_l0K a3 kq4 i5 kn kx kr = (laws_heldWaiterS_l0 (a3, kq4, i5, ())).bind fun r => sum3K r kn kx kr := by
  simp only [laws_heldWaiterS_l0K, laws_heldWaiterS_l0, B0, B1, B2, B3, B4, B5, B6, B7, B8, C1, C2, C3, C4, C5]
noncomputable def laws_heldWaiterSK {γ : Type} (a1 : (List DWaiter)) (kq2 : Int) (k : Int → Option γ) : Option γ :=
 (loopF laws_heldWaiterS_l0 (a1, kq2, (0 : Int), ())).bind fun q => endK q (fun z14 =>
  k z14.1) (fun z15 =>
  k z15.1)
noncomputable def laws_heldWaiterS (a1 : (List DWaiter)) (kq2 : Int) : Option (Int) :=
  laws_heldWaiterSK a1 kq2 some
theorem laws_heldWaiterS_eq {γ : Type} (a1 : (List DWaiter)) (kq2 : Int) (k : Int → Option γ) : laws_heldWaiterSK a1 kq2 k = (laws_heldWaiterS a1 kq2).bind k := by
  simp only [laws_heldWaiterSK, laws_heldWaiterS, B0, B1, B2, B3, B4, B5, B6, B7, B8, C1, C2, C3, C4, C5]

/-! loop.example/capkernel/laws.heldEndpoint -/
noncomputable def laws_heldEndpointK {γ : Type} (a1 : DEndpoint) (kq2 : Int) (k : Int → Option γ) : Option γ :=
 (laws_heldWaiterS a1.2.1 kq2).bind fun r3 =>
 bif decide (r3 < (0 : Int)) then
  k (-1 : Int)
 else
 k r3
noncomputable def laws_heldEndpoint (a1 : DEndpoint) (kq2 : Int) : Option (Int) :=
  laws_heldEndpointK a1 kq2 some
theorem laws_heldEndpoint_eq {γ : Type} (a1 : DEndpoint) (kq2 : Int) (k : Int → Option γ) : laws_heldEndpointK a1 kq2 k = (laws_heldEndpoint a1 kq2).bind k := by
  simp only [laws_heldEndpointK, laws_heldEndpoint, B0, B1, B2, B3, B4, B5, B6, B7, B8, C1, C2, C3, C4, C5]

/-! loop.example/capkernel/laws.FnExactEndpointCancel -/
noncomputable def laws_FnExactEndpointCancelK {γ : Type} (aE1 : DEndpoint) (aNumber2 : Int) (k : Bool → Option γ) : Option γ :=
 (laws_szEndpoint (aE1.1, aE1.2.1, ()) (1048576 : Int)).bind fun r3 =>
 bif decide (r3 < (0 : Int)) then
  k true
 else
 (laws_toEndpoint (aE1.1, aE1.2.1, ())).bind fun r4 =>
 (spec_EndpointCancel (r4.1, r4.2, ()) aNumber2).bind fun r5 =>
 (laws_toEndpoint (aE1.1, aE1.2.1, ())).bind fun r6 =>
 (impl_EndpointCancel (r6.1, r6.2, ()) aNumber2).bind fun r7 =>
 (laws_eqEndpoint (r7.1, r7.2.2, ()) (r5.1, r5.2.2, ())).bind fun r8 =>
 bif (!(!r8)) then
  bif (!(r7.2.1 == r5.2.1)) then
   k false
  else
  (laws_toEndpoint (aE1.1, aE1.2.1, ())).bind fun r9 =>
  (laws_eqEndpoint (r6.1, r6.2, ()) (r9.1, r9.2, ())).bind fun r10 =>
  bif (!r10) then
   k false
  else
  (laws_markEndpoint r6.1 (1 : Int) r6.2).bind fun r11 =>
  bif (!decide (r11.1 < (0 : Int))) then
   (laws_eqEndpoint (r7.1, r7.2.2, ()) (r5.1, r5.2.2, ())).bind fun r12 =>
   bif (!(!r12)) then
    bif (!(r7.2.1 == r5.2.1)) then
     k false
    else
    (laws_markEndpoint r7.1 (1 : Int) r7.2.2).bind fun r13 =>
    (laws_heldEndpoint (r7.1, r13.2, ()) (1 : Int)).bind fun r14 =>
    bif decide (r14 < (0 : Int)) then
     k false
    else
    bif (r14 != r13.1) then
     k false
    else
    (laws_toEndpoint (aE1.1, aE1.2.1, ())).bind fun r15 =>
    (impl_EndpointCancel (r15.1, r15.2, ()) aNumber2).bind fun r16 =>
    (laws_eqEndpoint (r16.1, r16.2.2, ()) (r5.1, r5.2.2, ())).bind fun r17 =>
    bif (!(!r17)) then
     bif (!(r16.2.1 == r5.2.1)) then
      k false
     else
     (laws_heldEndpoint (r7.1, r13.2, ()) (1 : Int)).bind fun r18 =>
     bif decide (r18 < (0 : Int)) then
      k false
     else
     bif (r18 != r13.1) then
      k false
     else
     k true
    else
    k false
   else
   k false
  else
  k false
 else
 k false
noncomputable def laws_FnExactEndpointCancel (aE1 : DEndpoint) (aNumber2 : Int) : Option (Bool) :=
  laws_FnExactEndpointCancelK aE1 aNumber2 some
theorem laws_FnExactEndpointCancel_eq {γ : Type} (aE1 : DEndpoint) (aNumber2 : Int) (k : Bool → Option γ) : laws_FnExactEndpointCancelK aE1 aNumber2 k = (laws_FnExactEndpointCancel aE1 aNumber2).bind k := by
  simp only [laws_FnExactEndpointCancelK, laws_FnExactEndpointCancel, B0, B1, B2, B3, B4, B5, B6, B7, B8, C1, C2, C3, C4, C5]

/-! loop.example/capkernel/spec.DrawEndpointCancel -/
noncomputable def spec_DrawEndpointCancelK {γ : Type} (code1 : (List Int)) (k : Bool × Int × (List DWaiter) → Option γ) : Option γ :=
 (spec_l20Open code1).bind fun r2 =>
 (spec_l20Endpoint (12 : Int) r2).bind fun r3 =>
 (spec_l20Rd_pick (16 : Int) r3.2.1).bind fun r4 =>
 bif decide ((r3.2.2.length : Int) > (0 : Int)) then
  (spec_l20Rd_pick (2 : Int) r4.2).bind fun r5 =>
  bif (r5.1 == (0 : Int)) then
   (spec_l20Rd_pick (r3.2.2.length : Int) r5.2).bind fun r6 =>
   nnK r6.1 fun i7 =>
   chk (i7 < r3.2.2.length) <|
   getK r3.2.2 i7 fun v8 =>
   k (r3.1, v8.1, r3.2.2)
  else
  k (r3.1, r4.1, r3.2.2)
 else
 k (r3.1, r4.1, r3.2.2)
noncomputable def spec_DrawEndpointCancel (code1 : (List Int)) : Option (Bool × Int × (List DWaiter)) :=
  spec_DrawEndpointCancelK code1 some
theorem spec_DrawEndpointCancel_eq {γ : Type} (code1 : (List Int)) (k : Bool × Int × (List DWaiter) → Option γ) : spec_DrawEndpointCancelK code1 k = (spec_DrawEndpointCancel code1).bind k := by
  simp only [spec_DrawEndpointCancelK, spec_DrawEndpointCancel, B0, B1, B2, B3, B4, B5, B6, B7, B8, C1, C2, C3, C4, C5]

/-! loop.example/capkernel/laws.sameEnd -/
noncomputable def laws_sameEnd_l0K {γ : Type} (a3 : DEndpoint) (b4 : DEndpoint) (kq5 : Int) (kn : DEndpoint × DEndpoint × Int × Unit → Option γ) (kx : DEndpoint × DEndpoint × Unit → Option γ) (kr : Bool × Unit → Option γ) : Option γ :=
 bif decide (kq5 < (a3.2.1.length : Int)) then
  nnK kq5 fun i6 =>
  getK a3.2.1 i6 fun v7 =>
  nnK kq5 fun i8 =>
  getK b4.2.1 i8 fun v9 =>
  bif (!(decide (v7.1 = v9.1) && (decide (v7.2.1 = v9.2.1) && (decide (v7.2.2.1 = v9.2.2.1) && (decide (v7.2.2.2.1 = v9.2.2.2.1) && true))))) then
   kr (false, ())
  else
  kn (a3, b4, (IntKind.wrap .i64 (kq5 + (1 : Int))), ())
 else
 kx (a3, b4, ())
noncomputable def laws_sameEnd_l0 (x : DEndpoint × DEndpoint × Int × Unit) : Option ((DEndpoint × DEndpoint × Int × Unit) ⊕ ((DEndpoint × DEndpoint × Unit) ⊕ (Bool × Unit))) :=
  laws_sameEnd_l0K x.1 x.2.1 x.2.2.1 (fun y => some (.inl y)) (fun a => some (.inr (.inl a))) (fun b => some (.inr (.inr b)))
theorem laws_sameEnd_l0_eq {γ : Type} (a3 : DEndpoint) (b4 : DEndpoint) (kq5 : Int) (kn : DEndpoint × DEndpoint × Int × Unit → Option γ) (kx : DEndpoint × DEndpoint × Unit → Option γ) (kr : Bool × Unit → Option γ) : laws_sameEnd_l0K a3 b4 kq5 kn kx kr = (laws_sameEnd_l0 (a3, b4, kq5, ())).bind fun r => sum3K r kn kx kr := by
  simp only [laws_sameEnd_l0K, laws_sameEnd_l0, B0, B1, B2, B3, B4, B5, B6, B7, B8, C1, C2, C3, C4, C5]
noncomputable def laws_sameEndK {γ : Type} (a1 : DEndpoint) (b2 : DEndpoint) (k : Bool → Option γ) : Option γ :=
 bif ((a1.2.1.length : Int) != (b2.2.1.length : Int)) then
  k false
 else
 (loopF laws_sameEnd_l0 ((a1.1, a1.2.1, ()), (b2.1, b2.2.1, ()), (0 : Int), ())).bind fun q => endK q (fun z10 =>
  k ((z10.1.1 == z10.2.1.1))) (fun z11 =>
  k z11.1)
noncomputable def laws_sameEnd (a1 : DEndpoint) (b2 : DEndpoint) : Option (Bool) :=
  laws_sameEndK a1 b2 some
theorem laws_sameEnd_eq {γ : Type} (a1 : DEndpoint) (b2 : DEndpoint) (k : Bool → Option γ) : laws_sameEndK a1 b2 k = (laws_sameEnd a1 b2).bind k := by
  simp only [laws_sameEndK, laws_sameEnd, B0, B1, B2, B3, B4, B5, B6, B7, B8, C1, C2, C3, C4, C5]

/-! loop.example/capkernel/laws.FnEndpointCancel -/
noncomputable def laws_FnEndpointCancelK {γ : Type} (code1 : (List Int)) (k : Bool → Option γ) : Option γ :=
 bif decide ((code1.length : Int) > (1048576 : Int)) then
  k true
 else
 (spec_DrawEndpointCancel code1).bind fun r2 =>
 (impl_EndpointCancel (r2.1, r2.2.2, ()) r2.2.1).bind fun r3 =>
 (spec_EndpointCancel (r2.1, r2.2.2, ()) r2.2.1).bind fun r4 =>
 (laws_sameEnd (r3.1, r3.2.2, ()) (r4.1, r4.2.2, ())).bind fun r5 =>
 bif (!(!r5)) then
  bif (!(r3.2.1 == r4.2.1)) then
   k false
  else
  (spec_EndpointValid (r2.1, r2.2.2, ())).bind fun r6 =>
  bif (!r6) then
   bif (!r3.2.1) then
    bif ((r3.2.2.length : Int) == (0 : Int)) then
     (laws_alive).bind fun r7 =>
     k r7
    else
    k false
   else
   k false
  else
  (impl_EndpointCancel (r3.1, r3.2.2, ()) r2.2.1).bind fun r8 =>
  bif r3.2.1 then
   bif (!r8.2.1) then
    bif ((r3.2.2.length : Int) == (IntKind.wrap .i64 ((r2.2.2.length : Int) - (1 : Int)))) then
     (impl_EndpointValid (r3.1, r3.2.2, ())).bind fun r9 =>
     bif r9 then
      bif (!r3.2.1) then
       (laws_sameEnd (r3.1, r3.2.2, ()) (r2.1, r2.2.2, ())).bind fun r10 =>
       k r10
      else
      k true
     else
     k false
    else
    k false
   else
   k false
  else
  bif (!r8.2.1) then
   bif ((r3.2.2.length : Int) == (IntKind.wrap .i64 ((r2.2.2.length : Int) - (0 : Int)))) then
    (impl_EndpointValid (r3.1, r3.2.2, ())).bind fun r11 =>
    bif r11 then
     bif (!r3.2.1) then
      (laws_sameEnd (r3.1, r3.2.2, ()) (r2.1, r2.2.2, ())).bind fun r12 =>
      k r12
     else
     k true
    else
    k false
   else
   k false
  else
  k false
 else
 k false
noncomputable def laws_FnEndpointCancel (code1 : (List Int)) : Option (Bool) :=
  laws_FnEndpointCancelK code1 some
theorem laws_FnEndpointCancel_eq {γ : Type} (code1 : (List Int)) (k : Bool → Option γ) : laws_FnEndpointCancelK code1 k = (laws_FnEndpointCancel code1).bind k := by
  simp only [laws_FnEndpointCancelK, laws_FnEndpointCancel, B0, B1, B2, B3, B4, B5, B6, B7, B8, C1, C2, C3, C4, C5]


/-! slices.Insert(()loop.example/capkernel/impl.Waiter,loop.example/capkernel/impl.Waiter) -/
noncomputable def slices_Insert_Waiter_roomK {γ : Type} (sq1 : Nat) (sq2 : Nat) (i3 : Int) (p4 : (List DWaiter)) (b5 : (List DWaiter)) (k : (List DWaiter) → Option γ) : Option γ :=
 nnK i3 fun i6 =>
 chk (i6 ≤ sq1) <|
 bif ((p4.length : Int) == (0 : Int)) then
  k (b5.take sq1)
 else
 bif (i3 == (sq1 : Int)) then
  bif decide ((sq1 + p4.length) ≤ sq2) then
   chk (((0 + sq1) + p4.length) ≤ b5.length) <|
   k ((over b5 (0 + sq1) p4).take (sq1 + p4.length))
  else
  chk ((sq1 + p4.length) ≤ bigRow) <|
  k ((b5.drop 0).take sq1 ++ p4)
 else
 bif decide ((IntKind.wrap .i64 ((sq1 : Int) + (p4.length : Int))) > (sq2 : Int)) then
  nnK i3 fun i7 =>
  chk (0 ≤ i7 ∧ i7 ≤ sq2 ∧ (0 + i7) ≤ b5.length) <|
  nnK (IntKind.wrap .i64 ((IntKind.wrap .i64 ((sq1 : Int) + (p4.length : Int))) - i3)) fun i8 =>
  chk (i8 ≤ bigRow) <|
  bif decide ((i7 + (List.replicate i8 ((0 : Int), (0 : Int), (0 : Int), (0 : Int), ())).length) ≤ sq2) then
   chk (((0 + i7) + (List.replicate i8 ((0 : Int), (0 : Int), (0 : Int), (0 : Int), ())).length) ≤ b5.length) <|
   nnK i3 fun i9 =>
   chk (i9 ≤ (i7 + (List.replicate i8 ((0 : Int), (0 : Int), (0 : Int), (0 : Int), ())).length)) <|
   nnK (IntKind.wrap .i64 (i3 + (p4.length : Int))) fun i10 =>
   chk (i10 ≤ (i7 + (List.replicate i8 ((0 : Int), (0 : Int), (0 : Int), (0 : Int), ())).length)) <|
   nnK i3 fun i11 =>
   chk (i11 ≤ sq1) <|
   k ((over (over (over b5 (0 + i7) (List.replicate i8 ((0 : Int), (0 : Int), (0 : Int), (0 : Int), ()))) (0 + i9) (p4.take ((i7 + (List.replicate i8 ((0 : Int), (0 : Int), (0 : Int), (0 : Int), ())).length) - i9))) (0 + i10) ((((over (over b5 (0 + i7) (List.replicate i8 ((0 : Int), (0 : Int), (0 : Int), (0 : Int), ()))) (0 + i9) (p4.take ((i7 + (List.replicate i8 ((0 : Int), (0 : Int), (0 : Int), (0 : Int), ())).length) - i9))).drop (0 + i11)).take (sq1 - i11)).take ((i7 + (List.replicate i8 ((0 : Int), (0 : Int), (0 : Int), (0 : Int), ())).length) - i10))).take (i7 + (List.replicate i8 ((0 : Int), (0 : Int), (0 : Int), (0 : Int), ())).length))
  else
  chk ((i7 + (List.replicate i8 ((0 : Int), (0 : Int), (0 : Int), (0 : Int), ())).length) ≤ bigRow) <|
  nnK i3 fun i12 =>
  chk (i12 ≤ ((b5.drop 0).take i7 ++ (List.replicate i8 ((0 : Int), (0 : Int), (0 : Int), (0 : Int), ()))).length) <|
  nnK (IntKind.wrap .i64 (i3 + (p4.length : Int))) fun i13 =>
  chk (i13 ≤ (over ((b5.drop 0).take i7 ++ (List.replicate i8 ((0 : Int), (0 : Int), (0 : Int), (0 : Int), ()))) i12 (p4.take (((b5.drop 0).take i7 ++ (List.replicate i8 ((0 : Int), (0 : Int), (0 : Int), (0 : Int), ()))).length - i12))).length) <|
  nnK i3 fun i14 =>
  chk (i14 ≤ sq1) <|
  k (over (over ((b5.drop 0).take i7 ++ (List.replicate i8 ((0 : Int), (0 : Int), (0 : Int), (0 : Int), ()))) i12 (p4.take (((b5.drop 0).take i7 ++ (List.replicate i8 ((0 : Int), (0 : Int), (0 : Int), (0 : Int), ()))).length - i12))) i13 (((b5.drop (0 + i14)).take (sq1 - i14)).take ((over ((b5.drop 0).take i7 ++ (List.replicate i8 ((0 : Int), (0 : Int), (0 : Int), (0 : Int), ()))) i12 (p4.take (((b5.drop 0).take i7 ++ (List.replicate i8 ((0 : Int), (0 : Int), (0 : Int), (0 : Int), ()))).length - i12))).length - i13)))
 else
 nnK (IntKind.wrap .i64 ((sq1 : Int) + (p4.length : Int))) fun i15 =>
 chk (0 ≤ i15 ∧ i15 ≤ sq2 ∧ (0 + i15) ≤ b5.length) <|
 nnK (IntKind.wrap .i64 (i3 + (p4.length : Int))) fun i16 =>
 chk (i16 ≤ i15) <|
 nnK (IntKind.wrap .i64 (i3 + (p4.length : Int))) fun i17 =>
 chk (i17 ≤ i15) <|
 nnK i3 fun i18 =>
 chk (i18 ≤ i15) <|
 nnK i3 fun i19 =>
 chk (i19 ≤ i15) <|
 k ((over (over b5 (0 + i17) (((b5.drop (0 + i18)).take (i15 - i18)).take (i15 - i17))) (0 + i19) (p4.take (i15 - i19))).take i15)
noncomputable def slices_Insert_Waiter_room (sq1 : Nat) (sq2 : Nat) (i3 : Int) (p4 : (List DWaiter)) (b5 : (List DWaiter)) : Option ((List DWaiter)) :=
  slices_Insert_Waiter_roomK sq1 sq2 i3 p4 b5 some
theorem slices_Insert_Waiter_room_eq {γ : Type} (sq1 : Nat) (sq2 : Nat) (i3 : Int) (p4 : (List DWaiter)) (b5 : (List DWaiter)) (k : (List DWaiter) → Option γ) : slices_Insert_Waiter_roomK sq1 sq2 i3 p4 b5 k = (slices_Insert_Waiter_room sq1 sq2 i3 p4 b5).bind k := by
  simp only [slices_Insert_Waiter_roomK, slices_Insert_Waiter_room, B0, B1, B2, B3, B4, B5, B6, B7, B8, C1, C2, C3, C4, C5]

/-! slices.Insert(()loop.example/capkernel/impl.Waiter,loop.example/capkernel/impl.Waiter) -/
noncomputable def slices_Insert_WaiterK {γ : Type} (i : Int) (b1 b : (List DWaiter)) (k : (List DWaiter) → Option γ) : Option γ :=
  nnK i fun j => chk (j ≤ b.length) <| chk (b.length + b1.length ≤ bigRow) <| k (b.take j ++ b1 ++ b.drop j)
noncomputable def slices_Insert_Waiter (i : Int) (b1 b : (List DWaiter)) : Option ((List DWaiter)) :=
  slices_Insert_WaiterK i b1 b some
theorem slices_Insert_Waiter_eq {γ : Type} (i : Int) (b1 b : (List DWaiter)) (k : (List DWaiter) → Option γ) : slices_Insert_WaiterK i b1 b k = (slices_Insert_Waiter i b1 b).bind k := by
  simp only [slices_Insert_WaiterK, slices_Insert_Waiter, B0, B1, B2, B3, B4, B5, B6, B7, B8, C1, C2, C3, C4, C5]
set_option maxHeartbeats 1000000 in
theorem slices_Insert_Waiter_roomy {i : Int} {b1 b y : (List DWaiter)} (js : (List DWaiter)) (h : slices_Insert_Waiter i b1 b = some y) : slices_Insert_Waiter_room b.length (b ++ js).length i b1 (b ++ js) = some y := by
  unfold slices_Insert_Waiter slices_Insert_WaiterK at h
  by_cases hi : 0 ≤ i
  case neg => simp [nnK, hi] at h
  obtain ⟨j, rfl⟩ := Int.eq_ofNat_of_zero_le hi
  rw [nnK_nat] at h
  by_cases hj : j ≤ b.length
  case neg => simp [chk, hj] at h
  by_cases hb : b.length + b1.length ≤ bigRow
  case neg => simp [chk, hb] at h
  rw [chk_pos hj, chk_pos hb] at h
  obtain rfl := Option.some.inj h
  have hb' : b.length + b1.length ≤ 1099511627776 := hb
  have hl : (b ++ js).length = b.length + js.length := List.length_append
  have w1 : IntKind.wrap .i64 ((b.length : Int) + (b1.length : Int)) = ((b.length + b1.length : Nat) : Int) := by rw [wrap64I (by omega) (by omega)]; omega
  have w2 : IntKind.wrap .i64 ((j : Int) + (b1.length : Int)) = ((j + b1.length : Nat) : Int) := by rw [wrap64I (by omega) (by omega)]; omega
  have w3 : IntKind.wrap .i64 (((b.length + b1.length : Nat) : Int) - (j : Int)) = ((b.length + b1.length - j : Nat) : Int) := by rw [wrap64I (by omega) (by omega)]; omega
  unfold slices_Insert_Waiter_room slices_Insert_Waiter_roomK
  simp only [w1, w2, w3, nnK_nat, List.length_replicate]
  rw [chk_pos hj]
  by_cases hm : b1.length = 0
  · have : b1 = [] := List.eq_nil_of_length_eq_zero hm
    subst this
    simp
  rw [show ((b1.length : Int) == (0 : Int)) = false from beq_eq_false_iff_ne.mpr (fun e => hm (by exact_mod_cast e))]
  simp only [cond_false]
  by_cases hjn : j = b.length
  · subst hjn
    simp only [beq_self_eq_true, cond_true]
    by_cases hc : b.length + b1.length ≤ (b ++ js).length
    · rw [show decide (b.length + b1.length ≤ (b ++ js).length) = true by simpa using hc]
      simp only [cond_true]
      rw [chk_pos (by omega), insert_end b js b1 hc]
      simp
    · rw [show decide (b.length + b1.length ≤ (b ++ js).length) = false by simpa using hc]
      simp only [cond_false]
      rw [chk_pos hb]
      simp
  rw [show ((j : Int) == (b.length : Int)) = false from beq_eq_false_iff_ne.mpr (fun e => hjn (by exact_mod_cast e))]
  simp only [cond_false]
  by_cases hc : (b ++ js).length < b.length + b1.length
  · rw [show decide (((b.length + b1.length : Nat) : Int) > ((b ++ js).length : Int)) = true by simp only [gt_iff_lt, decide_eq_true_eq]; omega]
    simp only [cond_true]
    have hgr : ¬ (j + (b.length + b1.length - j) ≤ (b ++ js).length) := by omega
    rw [chk_pos (by omega), chk_pos (show b.length + b1.length - j ≤ bigRow from Nat.le_trans (Nat.sub_le _ _) hb), show decide (j + (b.length + b1.length - j) ≤ (b ++ js).length) = false by simpa using hgr]
    simp only [cond_false]
    rw [chk_pos (show j + (b.length + b1.length - j) ≤ bigRow by rw [show j + (b.length + b1.length - j) = b.length + b1.length by omega]; exact hb)]
    rw [insert_grow b js b1 _ hj]
    have e0 : ((b ++ js).drop 0).take j = b.take j := by rw [List.drop_zero, List.take_append_of_le_length hj]
    have hl3 : ∀ z, (((b ++ js).drop 0).take j ++ List.replicate (b.length + b1.length - j) z).length = b.length + b1.length := fun z => by rw [e0, List.length_append, List.length_take, List.length_replicate]; omega
    rw [chk_pos (by rw [hl3]; omega), chk_pos (by rw [over_length _ _ _ (by rw [hl3, List.length_take]; omega), hl3]; omega), chk_pos hj]
  · rw [show decide (((b.length + b1.length : Nat) : Int) > ((b ++ js).length : Int)) = false by simp only [gt_iff_lt, decide_eq_false_iff_not]; omega]
    simp only [cond_false]
    rw [chk_pos (by omega), chk_pos (by omega), chk_pos (by omega), chk_pos (by omega), chk_pos (by omega), insert_mid b js b1 hj (by omega)]

/-! (loop.example/capkernel/impl.Endpoint).join -/
noncomputable def impl_Endpoint_join_l0K {γ : Type} (sends4 : Bool) (e5 : DEndpoint) (w6 : DWaiter) (atq7 : Int) (b8 : Bool) (kn : Bool × DEndpoint × DWaiter × Int × Bool × Unit → Option γ) (kx : Bool × DEndpoint × DWaiter × Int × Bool × Unit → Option γ) : Option γ :=
 bif decide (atq7 < (e5.2.1.length : Int)) then
  nnK atq7 fun i9 =>
  getK e5.2.1 i9 fun v10 =>
  bif decide (v10.2.1 ≥ w6.2.1) then
   kn (sends4, e5, w6, (IntKind.wrap .i64 (atq7 + (1 : Int))), b8, ())
  else
  kx (sends4, e5, w6, atq7, b8, ())
 else
 kx (sends4, e5, w6, atq7, b8, ())
noncomputable def impl_Endpoint_join_l0 (x : Bool × DEndpoint × DWaiter × Int × Bool × Unit) : Option ((Bool × DEndpoint × DWaiter × Int × Bool × Unit) ⊕ (Bool × DEndpoint × DWaiter × Int × Bool × Unit)) :=
  impl_Endpoint_join_l0K x.1 x.2.1 x.2.2.1 x.2.2.2.1 x.2.2.2.2.1 (fun y => some (.inl y)) (fun a => some (.inr a))
theorem impl_Endpoint_join_l0_eq {γ : Type} (sends4 : Bool) (e5 : DEndpoint) (w6 : DWaiter) (atq7 : Int) (b8 : Bool) (kn : Bool × DEndpoint × DWaiter × Int × Bool × Unit → Option γ) (kx : Bool × DEndpoint × DWaiter × Int × Bool × Unit → Option γ) : impl_Endpoint_join_l0K sends4 e5 w6 atq7 b8 kn kx = (impl_Endpoint_join_l0 (sends4, e5, w6, atq7, b8, ())).bind fun r => sum2K r kn kx := by
  simp only [impl_Endpoint_join_l0K, impl_Endpoint_join_l0, B0, B1, B2, B3, B4, B5, B6, B7, B8, C1, C2, C3, C4, C5]
noncomputable def impl_Endpoint_joinK {γ : Type} (e1 : DEndpoint) (sends2 : Bool) (w3 : DWaiter) (k : Bool × (List DWaiter) → Option γ) : Option γ :=
 (loopF impl_Endpoint_join_l0 (sends2, (e1.1, e1.2.1, ()), (w3.1, w3.2.1, w3.2.2.1, w3.2.2.2.1, ()), (0 : Int), false, ())).bind fun z11 =>
 (slices_Clone_Waiter z11.2.1.2.1).bind fun r12 =>
 (slices_Insert_Waiter z11.2.2.2.1 [z11.2.2.1] r12).bind fun r13 =>
 (impl_clone_Waiter r13).bind fun r14 =>
 k (z11.1, r14)
noncomputable def impl_Endpoint_join (e1 : DEndpoint) (sends2 : Bool) (w3 : DWaiter) : Option (Bool × (List DWaiter)) :=
  impl_Endpoint_joinK e1 sends2 w3 some
theorem impl_Endpoint_join_eq {γ : Type} (e1 : DEndpoint) (sends2 : Bool) (w3 : DWaiter) (k : Bool × (List DWaiter) → Option γ) : impl_Endpoint_joinK e1 sends2 w3 k = (impl_Endpoint_join e1 sends2 w3).bind k := by
  simp only [impl_Endpoint_joinK, impl_Endpoint_join, B0, B1, B2, B3, B4, B5, B6, B7, B8, C1, C2, C3, C4, C5]

/-! loop.example/capkernel/impl.EndpointSend -/
noncomputable def impl_EndpointSendK {γ : Type} (e1 : DEndpoint) (w2 : DWaiter) (k : Bool × Int × (List DWaiter) → Option γ) : Option γ :=
 (impl_EndpointValid (e1.1, e1.2.1, ())).bind fun r3 =>
 bif (!(!r3)) then
  (impl_Waiter_may (w2.1, w2.2.1, w2.2.2.1, w2.2.2.2.1, ())).bind fun r4 =>
  bif (!(!r4)) then
   (impl_Endpoint_at (e1.1, e1.2.1, ()) w2.1).bind fun r5 =>
   bif decide (r5 ≥ (0 : Int)) then
    k (false, (-1 : Int), [])
   else
   bif (!e1.1) then
    bif decide ((e1.2.1.length : Int) > (0 : Int)) then
     getK e1.2.1 0 fun v6 =>
     (impl_Endpoint_without (e1.1, e1.2.1, ()) (0 : Int)).bind fun r7 =>
     k (r7.1, v6.1, r7.2)
    else
    (impl_Endpoint_join (e1.1, e1.2.1, ()) true (w2.1, w2.2.1, w2.2.2.1, w2.2.2.2.1, ())).bind fun r8 =>
    k (r8.1, (-1 : Int), r8.2)
   else
   (impl_Endpoint_join (e1.1, e1.2.1, ()) true (w2.1, w2.2.1, w2.2.2.1, w2.2.2.2.1, ())).bind fun r9 =>
   k (r9.1, (-1 : Int), r9.2)
  else
  k (false, (-1 : Int), [])
 else
 k (false, (-1 : Int), [])
noncomputable def impl_EndpointSend (e1 : DEndpoint) (w2 : DWaiter) : Option (Bool × Int × (List DWaiter)) :=
  impl_EndpointSendK e1 w2 some
theorem impl_EndpointSend_eq {γ : Type} (e1 : DEndpoint) (w2 : DWaiter) (k : Bool × Int × (List DWaiter) → Option γ) : impl_EndpointSendK e1 w2 k = (impl_EndpointSend e1 w2).bind k := by
  simp only [impl_EndpointSendK, impl_EndpointSend, B0, B1, B2, B3, B4, B5, B6, B7, B8, C1, C2, C3, C4, C5]

/-! loop.example/capkernel/laws.FnExactEndpointSend -/
noncomputable def laws_FnExactEndpointSendK {γ : Type} (aE1 : DEndpoint) (aW2 : DWaiter) (k : Bool → Option γ) : Option γ :=
 (laws_szEndpoint (aE1.1, aE1.2.1, ()) (1048576 : Int)).bind fun r3 =>
 bif decide (r3 < (0 : Int)) then
  k true
 else
 (laws_toEndpoint (aE1.1, aE1.2.1, ())).bind fun r4 =>
 (laws_toWaiter (aW2.1, aW2.2.1, aW2.2.2.1, aW2.2.2.2.1, ())).bind fun r5 =>
 (spec_EndpointSend (r4.1, r4.2, ()) r5).bind fun r6 =>
 (laws_toEndpoint (aE1.1, aE1.2.1, ())).bind fun r7 =>
 (laws_toWaiter (aW2.1, aW2.2.1, aW2.2.2.1, aW2.2.2.2.1, ())).bind fun r8 =>
 (impl_EndpointSend (r7.1, r7.2, ()) r8).bind fun r9 =>
 (laws_eqEndpoint (r9.1, r9.2.2, ()) (r6.1, r6.2.2, ())).bind fun r10 =>
 bif (!(!r10)) then
  bif (r9.2.1 != r6.2.1) then
   k false
  else
  (laws_toEndpoint (aE1.1, aE1.2.1, ())).bind fun r11 =>
  (laws_eqEndpoint (r7.1, r7.2, ()) (r11.1, r11.2, ())).bind fun r12 =>
  bif (!r12) then
   k false
  else
  (laws_markEndpoint r7.1 (1 : Int) r7.2).bind fun r13 =>
  bif (!decide (r13.1 < (0 : Int))) then
   (laws_eqEndpoint (r9.1, r9.2.2, ()) (r6.1, r6.2.2, ())).bind fun r14 =>
   bif (!(!r14)) then
    bif (r9.2.1 != r6.2.1) then
     k false
    else
    (laws_markEndpoint r9.1 (1 : Int) r9.2.2).bind fun r15 =>
    (laws_heldEndpoint (r9.1, r15.2, ()) (1 : Int)).bind fun r16 =>
    bif decide (r16 < (0 : Int)) then
     k false
    else
    bif (r16 != r15.1) then
     k false
    else
    (laws_toEndpoint (aE1.1, aE1.2.1, ())).bind fun r17 =>
    (laws_toWaiter (aW2.1, aW2.2.1, aW2.2.2.1, aW2.2.2.2.1, ())).bind fun r18 =>
    (impl_EndpointSend (r17.1, r17.2, ()) r18).bind fun r19 =>
    (laws_eqEndpoint (r19.1, r19.2.2, ()) (r6.1, r6.2.2, ())).bind fun r20 =>
    bif (!(!r20)) then
     bif (r19.2.1 != r6.2.1) then
      k false
     else
     (laws_heldEndpoint (r9.1, r15.2, ()) (1 : Int)).bind fun r21 =>
     bif decide (r21 < (0 : Int)) then
      k false
     else
     bif (r21 != r15.1) then
      k false
     else
     k true
    else
    k false
   else
   k false
  else
  k false
 else
 k false
noncomputable def laws_FnExactEndpointSend (aE1 : DEndpoint) (aW2 : DWaiter) : Option (Bool) :=
  laws_FnExactEndpointSendK aE1 aW2 some
theorem laws_FnExactEndpointSend_eq {γ : Type} (aE1 : DEndpoint) (aW2 : DWaiter) (k : Bool → Option γ) : laws_FnExactEndpointSendK aE1 aW2 k = (laws_FnExactEndpointSend aE1 aW2).bind k := by
  simp only [laws_FnExactEndpointSendK, laws_FnExactEndpointSend, B0, B1, B2, B3, B4, B5, B6, B7, B8, C1, C2, C3, C4, C5]

/-! loop.example/capkernel/impl.EndpointTake -/
noncomputable def impl_EndpointTakeK {γ : Type} (e1 : DEndpoint) (number2 : Int) (prio3 : Int) (k : Bool × DWaiter × Bool × (List DWaiter) → Option γ) : Option γ :=
 (impl_EndpointValid (e1.1, e1.2.1, ())).bind fun r4 =>
 bif (!(!r4)) then
  (impl_Waiter_may (number2, prio3, (0 : Int), (0 : Int), ())).bind fun r5 =>
  bif (!(!r5)) then
   (impl_Endpoint_at (e1.1, e1.2.1, ()) number2).bind fun r6 =>
   bif decide (r6 ≥ (0 : Int)) then
    k (false, ((0 : Int), (0 : Int), (0 : Int), (0 : Int), ()), false, [])
   else
   bif e1.1 then
    getK e1.2.1 0 fun v7 =>
    (impl_Endpoint_without (e1.1, e1.2.1, ()) (0 : Int)).bind fun r8 =>
    k (r8.1, (v7.1, v7.2.1, v7.2.2.1, v7.2.2.2.1, ()), true, r8.2)
   else
   (impl_Endpoint_join (e1.1, e1.2.1, ()) false (number2, prio3, (0 : Int), (0 : Int), ())).bind fun r9 =>
   k (r9.1, ((0 : Int), (0 : Int), (0 : Int), (0 : Int), ()), false, r9.2)
  else
  k (false, ((0 : Int), (0 : Int), (0 : Int), (0 : Int), ()), false, [])
 else
 k (false, ((0 : Int), (0 : Int), (0 : Int), (0 : Int), ()), false, [])
noncomputable def impl_EndpointTake (e1 : DEndpoint) (number2 : Int) (prio3 : Int) : Option (Bool × DWaiter × Bool × (List DWaiter)) :=
  impl_EndpointTakeK e1 number2 prio3 some
theorem impl_EndpointTake_eq {γ : Type} (e1 : DEndpoint) (number2 : Int) (prio3 : Int) (k : Bool × DWaiter × Bool × (List DWaiter) → Option γ) : impl_EndpointTakeK e1 number2 prio3 k = (impl_EndpointTake e1 number2 prio3).bind k := by
  simp only [impl_EndpointTakeK, impl_EndpointTake, B0, B1, B2, B3, B4, B5, B6, B7, B8, C1, C2, C3, C4, C5]

/-! loop.example/capkernel/laws.FnExactEndpointTake -/
noncomputable def laws_FnExactEndpointTakeK {γ : Type} (aE1 : DEndpoint) (aNumber2 : Int) (aPrio3 : Int) (k : Bool → Option γ) : Option γ :=
 (laws_szEndpoint (aE1.1, aE1.2.1, ()) (1048576 : Int)).bind fun r4 =>
 bif decide (r4 < (0 : Int)) then
  k true
 else
 (laws_toEndpoint (aE1.1, aE1.2.1, ())).bind fun r5 =>
 (spec_EndpointTake (r5.1, r5.2, ()) aNumber2 aPrio3).bind fun r6 =>
 (laws_toEndpoint (aE1.1, aE1.2.1, ())).bind fun r7 =>
 (impl_EndpointTake (r7.1, r7.2, ()) aNumber2 aPrio3).bind fun r8 =>
 (laws_eqEndpoint (r8.1, r8.2.2.2, ()) (r6.1, r6.2.2.2, ())).bind fun r9 =>
 bif (!(!r9)) then
  (laws_eqWaiter (r8.2.1.1, r8.2.1.2.1, r8.2.1.2.2.1, r8.2.1.2.2.2.1, ()) (r6.2.1.1, r6.2.1.2.1, r6.2.1.2.2.1, r6.2.1.2.2.2.1, ())).bind fun r10 =>
  bif (!(!r10)) then
   bif (!(r8.2.2.1 == r6.2.2.1)) then
    k false
   else
   (laws_toEndpoint (aE1.1, aE1.2.1, ())).bind fun r11 =>
   (laws_eqEndpoint (r7.1, r7.2, ()) (r11.1, r11.2, ())).bind fun r12 =>
   bif (!r12) then
    k false
   else
   (laws_markEndpoint r7.1 (1 : Int) r7.2).bind fun r13 =>
   bif (!decide (r13.1 < (0 : Int))) then
    (laws_eqEndpoint (r8.1, r8.2.2.2, ()) (r6.1, r6.2.2.2, ())).bind fun r14 =>
    bif (!(!r14)) then
     (laws_eqWaiter (r8.2.1.1, r8.2.1.2.1, r8.2.1.2.2.1, r8.2.1.2.2.2.1, ()) (r6.2.1.1, r6.2.1.2.1, r6.2.1.2.2.1, r6.2.1.2.2.2.1, ())).bind fun r15 =>
     bif (!(!r15)) then
      bif (!(r8.2.2.1 == r6.2.2.1)) then
       k false
      else
      (laws_markEndpoint r8.1 (1 : Int) r8.2.2.2).bind fun r16 =>
      (laws_heldEndpoint (r8.1, r16.2, ()) (1 : Int)).bind fun r17 =>
      bif decide (r17 < (0 : Int)) then
       k false
      else
      bif (r17 != r16.1) then
       k false
      else
      (laws_toEndpoint (aE1.1, aE1.2.1, ())).bind fun r18 =>
      (impl_EndpointTake (r18.1, r18.2, ()) aNumber2 aPrio3).bind fun r19 =>
      (laws_eqEndpoint (r19.1, r19.2.2.2, ()) (r6.1, r6.2.2.2, ())).bind fun r20 =>
      bif (!(!r20)) then
       (laws_eqWaiter (r19.2.1.1, r19.2.1.2.1, r19.2.1.2.2.1, r19.2.1.2.2.2.1, ()) (r6.2.1.1, r6.2.1.2.1, r6.2.1.2.2.1, r6.2.1.2.2.2.1, ())).bind fun r21 =>
       bif (!(!r21)) then
        bif (!(r19.2.2.1 == r6.2.2.1)) then
         k false
        else
        (laws_heldEndpoint (r8.1, r16.2, ()) (1 : Int)).bind fun r22 =>
        bif decide (r22 < (0 : Int)) then
         k false
        else
        bif (r22 != r16.1) then
         k false
        else
        k true
       else
       k false
      else
      k false
     else
     k false
    else
    k false
   else
   k false
  else
  k false
 else
 k false
noncomputable def laws_FnExactEndpointTake (aE1 : DEndpoint) (aNumber2 : Int) (aPrio3 : Int) : Option (Bool) :=
  laws_FnExactEndpointTakeK aE1 aNumber2 aPrio3 some
theorem laws_FnExactEndpointTake_eq {γ : Type} (aE1 : DEndpoint) (aNumber2 : Int) (aPrio3 : Int) (k : Bool → Option γ) : laws_FnExactEndpointTakeK aE1 aNumber2 aPrio3 k = (laws_FnExactEndpointTake aE1 aNumber2 aPrio3).bind k := by
  simp only [laws_FnExactEndpointTakeK, laws_FnExactEndpointTake, B0, B1, B2, B3, B4, B5, B6, B7, B8, C1, C2, C3, C4, C5]

/-! loop.example/capkernel/spec.DrawEndpointSend -/
noncomputable def spec_DrawEndpointSendK {γ : Type} (code1 : (List Int)) (k : Bool × DWaiter × (List DWaiter) → Option γ) : Option γ :=
 (spec_l20Open code1).bind fun r2 =>
 (spec_l20Endpoint (14 : Int) r2).bind fun r3 =>
 (spec_l20Waiter (14 : Int) r3.2.1).bind fun r4 =>
 k (r3.1, (r4.1.1, r4.1.2.1, r4.1.2.2.1, r4.1.2.2.2.1, ()), r3.2.2)
noncomputable def spec_DrawEndpointSend (code1 : (List Int)) : Option (Bool × DWaiter × (List DWaiter)) :=
  spec_DrawEndpointSendK code1 some
theorem spec_DrawEndpointSend_eq {γ : Type} (code1 : (List Int)) (k : Bool × DWaiter × (List DWaiter) → Option γ) : spec_DrawEndpointSendK code1 k = (spec_DrawEndpointSend code1).bind k := by
  simp only [spec_DrawEndpointSendK, spec_DrawEndpointSend, B0, B1, B2, B3, B4, B5, B6, B7, B8, C1, C2, C3, C4, C5]

/-! loop.example/capkernel/laws.FnEndpointOrder -/
noncomputable def laws_FnEndpointOrderK {γ : Type} (code1 : (List Int)) (k : Bool → Option γ) : Option γ :=
 bif decide ((code1.length : Int) > (1048576 : Int)) then
  k true
 else
 (spec_DrawEndpointSend code1).bind fun r2 =>
 (impl_EndpointSend (false, [], ()) (r2.2.1.1, r2.2.1.2.1, r2.2.1.2.2.1, r2.2.1.2.2.2.1, ())).bind fun r3 =>
 (spec_EndpointSend (false, [], ()) (r2.2.1.1, r2.2.1.2.1, r2.2.1.2.2.1, r2.2.1.2.2.2.1, ())).bind fun r4 =>
 (laws_sameEnd (r3.1, r3.2.2, ()) (r4.1, r4.2.2, ())).bind fun r5 =>
 bif (!r5) then
  k false
 else
 bif (!((r3.2.2.length : Int) == (0 : Int))) then
  bif (r2.2.1.2.1 == (7 : Int)) then
   (laws_alive).bind fun r6 =>
   k r6
  else
  (impl_EndpointSend (r3.1, r3.2.2, ()) ((Int.tmod (IntKind.wrap .i64 (r2.2.1.1 + (1 : Int))) (16 : Int)), r2.2.1.2.1, (0 : Int), (0 : Int), ())).bind fun r7 =>
  (impl_EndpointSend (r3.1, r3.2.2, ()) ((Int.tmod (IntKind.wrap .i64 (r2.2.1.1 + (1 : Int))) (16 : Int)), (IntKind.wrap .i64 (r2.2.1.2.1 + (1 : Int))), (0 : Int), (0 : Int), ())).bind fun r8 =>
  (impl_EndpointTake (r7.1, r7.2.2, ()) (Int.tmod (IntKind.wrap .i64 (r2.2.1.1 + (2 : Int))) (16 : Int)) (0 : Int)).bind fun r9 =>
  (impl_EndpointTake (r8.1, r8.2.2, ()) (Int.tmod (IntKind.wrap .i64 (r2.2.1.1 + (2 : Int))) (16 : Int)) (0 : Int)).bind fun r10 =>
  bif ((decide (r9.2.1.1 = r2.2.1.1) && (decide (r9.2.1.2.1 = r2.2.1.2.1) && (decide (r9.2.1.2.2.1 = r2.2.1.2.2.1) && (decide (r9.2.1.2.2.2.1 = r2.2.1.2.2.2.1) && true))))) then
   k ((decide (r10.2.1.1 = (Int.tmod (IntKind.wrap .i64 (r2.2.1.1 + (1 : Int))) (16 : Int))) && (decide (r10.2.1.2.1 = (IntKind.wrap .i64 (r2.2.1.2.1 + (1 : Int)))) && (decide (r10.2.1.2.2.1 = (0 : Int)) && (decide (r10.2.1.2.2.2.1 = (0 : Int)) && true)))))
  else
  k false
 else
 (laws_alive).bind fun r11 =>
 k r11
noncomputable def laws_FnEndpointOrder (code1 : (List Int)) : Option (Bool) :=
  laws_FnEndpointOrderK code1 some
theorem laws_FnEndpointOrder_eq {γ : Type} (code1 : (List Int)) (k : Bool → Option γ) : laws_FnEndpointOrderK code1 k = (laws_FnEndpointOrder code1).bind k := by
  simp only [laws_FnEndpointOrderK, laws_FnEndpointOrder, B0, B1, B2, B3, B4, B5, B6, B7, B8, C1, C2, C3, C4, C5]

/-! loop.example/capkernel/laws.FnEndpointPair -/
noncomputable def laws_FnEndpointPairK {γ : Type} (code1 : (List Int)) (k : Bool → Option γ) : Option γ :=
 bif decide ((code1.length : Int) > (1048576 : Int)) then
  k true
 else
 (spec_DrawEndpointSend code1).bind fun r2 =>
 (impl_EndpointSend (false, [], ()) (r2.2.1.1, r2.2.1.2.1, r2.2.1.2.2.1, r2.2.1.2.2.2.1, ())).bind fun r3 =>
 (spec_EndpointSend (false, [], ()) (r2.2.1.1, r2.2.1.2.1, r2.2.1.2.2.1, r2.2.1.2.2.2.1, ())).bind fun r4 =>
 (laws_sameEnd (r3.1, r3.2.2, ()) (r4.1, r4.2.2, ())).bind fun r5 =>
 bif (!(!r5)) then
  bif (r3.2.1 != r4.2.1) then
   k false
  else
  bif ((r3.2.2.length : Int) == (0 : Int)) then
   bif (r3.2.1 == (-1 : Int)) then
    (laws_alive).bind fun r6 =>
    k r6
   else
   k false
  else
  (impl_EndpointTake (r3.1, r3.2.2, ()) (Int.tmod (IntKind.wrap .i64 (r2.2.1.1 + (1 : Int))) (16 : Int)) (0 : Int)).bind fun r7 =>
  bif (r3.2.1 == (-1 : Int)) then
   bif r7.2.2.1 then
    bif ((decide (r7.2.1.1 = r2.2.1.1) && (decide (r7.2.1.2.1 = r2.2.1.2.1) && (decide (r7.2.1.2.2.1 = r2.2.1.2.2.1) && (decide (r7.2.1.2.2.2.1 = r2.2.1.2.2.2.1) && true))))) then
     (laws_sameEnd (r7.1, r7.2.2.2, ()) (false, [], ())).bind fun r8 =>
     k r8
    else
    k false
   else
   k false
  else
  k false
 else
 k false
noncomputable def laws_FnEndpointPair (code1 : (List Int)) : Option (Bool) :=
  laws_FnEndpointPairK code1 some
theorem laws_FnEndpointPair_eq {γ : Type} (code1 : (List Int)) (k : Bool → Option γ) : laws_FnEndpointPairK code1 k = (laws_FnEndpointPair code1).bind k := by
  simp only [laws_FnEndpointPairK, laws_FnEndpointPair, B0, B1, B2, B3, B4, B5, B6, B7, B8, C1, C2, C3, C4, C5]

/-! loop.example/capkernel/laws.FnEndpointSend -/
noncomputable def laws_FnEndpointSend_l0K {γ : Type} (found11 : Int) (kq12 : Int) (b13 : Bool) (b14 : (List DWaiter)) (b15 : DWaiter) (b16 : Bool) (b17 : (List DWaiter)) (kn : Int × Int × Bool × (List DWaiter) × DWaiter × Bool × (List DWaiter) × Unit → Option γ) (kx : Int × Bool × (List DWaiter) × DWaiter × Bool × (List DWaiter) × Unit → Option γ) (kr : Bool × Unit → Option γ) : Option γ :=
 bif decide (kq12 < (b17.length : Int)) then
  nnK kq12 fun i18 =>
  getK b17 i18 fun v19 =>
  bif ((decide (v19.1 = b15.1) && (decide (v19.2.1 = b15.2.1) && (decide (v19.2.2.1 = b15.2.2.1) && (decide (v19.2.2.2.1 = b15.2.2.2.1) && true))))) then
   kn ((IntKind.wrap .i64 (found11 + (1 : Int))), (IntKind.wrap .i64 (kq12 + (1 : Int))), b13, b14, b15, b16, b17, ())
  else
  bif decide (found11 > (0 : Int)) then
   nnK kq12 fun i20 =>
   getK b17 i20 fun v21 =>
   bif decide (v21.2.1 ≥ b15.2.1) then
    kr (false, ())
   else
   kn (found11, (IntKind.wrap .i64 (kq12 + (1 : Int))), b13, b14, b15, b16, b17, ())
  else
  kn (found11, (IntKind.wrap .i64 (kq12 + (1 : Int))), b13, b14, b15, b16, b17, ())
 else
 kx (found11, b13, b14, b15, b16, b17, ())
noncomputable def laws_FnEndpointSend_l0 (x : Int × Int × Bool × (List DWaiter) × DWaiter × Bool × (List DWaiter) × Unit) : Option ((Int × Int × Bool × (List DWaiter) × DWaiter × Bool × (List DWaiter) × Unit) ⊕ ((Int × Bool × (List DWaiter) × DWaiter × Bool × (List DWaiter) × Unit) ⊕ (Bool × Unit))) :=
  laws_FnEndpointSend_l0K x.1 x.2.1 x.2.2.1 x.2.2.2.1 x.2.2.2.2.1 x.2.2.2.2.2.1 x.2.2.2.2.2.2.1 (fun y => some (.inl y)) (fun a => some (.inr (.inl a))) (fun b => some (.inr (.inr b)))
theorem laws_FnEndpointSend_l0_eq {γ : Type} (found11 : Int) (kq12 : Int) (b13 : Bool) (b14 : (List DWaiter)) (b15 : DWaiter) (b16 : Bool) (b17 : (List DWaiter)) (kn : Int × Int × Bool × (List DWaiter) × DWaiter × Bool × (List DWaiter) × Unit → Option γ) (kx : Int × Bool × (List DWaiter) × DWaiter × Bool × (List DWaiter) × Unit → Option γ) (kr : Bool × Unit → Option γ) : laws_FnEndpointSend_l0K found11 kq12 b13 b14 b15 b16 b17 kn kx kr = (laws_FnEndpointSend_l0 (found11, kq12, b13, b14, b15, b16, b17, ())).bind fun r => sum3K r kn kx kr := by
  simp only [laws_FnEndpointSend_l0K, laws_FnEndpointSend_l0, B0, B1, B2, B3, B4, B5, B6, B7, B8, C1, C2, C3, C4, C5]
noncomputable def laws_FnEndpointSendK {γ : Type} (code1 : (List Int)) (k : Bool → Option γ) : Option γ :=
 bif decide ((code1.length : Int) > (1048576 : Int)) then
  k true
 else
 (spec_DrawEndpointSend code1).bind fun r2 =>
 (impl_EndpointSend (r2.1, r2.2.2, ()) (r2.2.1.1, r2.2.1.2.1, r2.2.1.2.2.1, r2.2.1.2.2.2.1, ())).bind fun r3 =>
 (spec_EndpointSend (r2.1, r2.2.2, ()) (r2.2.1.1, r2.2.1.2.1, r2.2.1.2.2.1, r2.2.1.2.2.2.1, ())).bind fun r4 =>
 (laws_sameEnd (r3.1, r3.2.2, ()) (r4.1, r4.2.2, ())).bind fun r5 =>
 bif (!(!r5)) then
  bif (r3.2.1 != r4.2.1) then
   k false
  else
  (spec_EndpointValid (r2.1, r2.2.2, ())).bind fun r6 =>
  bif (!(!r6)) then
   bif ((r3.2.2.length : Int) == (0 : Int)) then
    bif decide (r3.2.1 < (0 : Int)) then
     bif ((r3.2.2.length : Int) == (0 : Int)) then
      bif (r3.2.1 == (-1 : Int)) then
       (laws_alive).bind fun r7 =>
       k r7
      else
      k false
     else
     k false
    else
    bif decide (r3.2.1 ≥ (0 : Int)) then
     bif (!r2.1) then
      getK r2.2.2 0 fun v8 =>
      bif (r3.2.1 == v8.1) then
       chk (1 ≤ r2.2.2.length) <|
       (laws_sameEnd (r3.1, r3.2.2, ()) (false, (r2.2.2.drop 1), ())).bind fun r9 =>
       bif r9 then
        (impl_EndpointValid (r3.1, r3.2.2, ())).bind fun r10 =>
        k r10
       else
       k false
      else
      k false
     else
     k false
    else
    (loopF laws_FnEndpointSend_l0 ((0 : Int), (0 : Int), r2.1, r2.2.2, (r2.2.1.1, r2.2.1.2.1, r2.2.1.2.2.1, r2.2.1.2.2.2.1, ()), r3.1, r3.2.2, ())).bind fun q => endK q (fun z22 =>
     (impl_EndpointCancel (z22.2.2.2.2.1, z22.2.2.2.2.2.1, ()) z22.2.2.2.1.1).bind fun r24 =>
     bif (z22.1 == (1 : Int)) then
      bif r24.2.1 then
       (laws_sameEnd (r24.1, r24.2.2, ()) (z22.2.1, z22.2.2.1, ())).bind fun r25 =>
       bif r25 then
        (impl_EndpointValid (z22.2.2.2.2.1, z22.2.2.2.2.2.1, ())).bind fun r26 =>
        k r26
       else
       k false
      else
      k false
     else
     k false) (fun z23 =>
     k z23.1)
   else
   bif decide (r3.2.1 ≥ (0 : Int)) then
    bif (!r2.1) then
     getK r2.2.2 0 fun v27 =>
     bif (r3.2.1 == v27.1) then
      chk (1 ≤ r2.2.2.length) <|
      (laws_sameEnd (r3.1, r3.2.2, ()) (false, (r2.2.2.drop 1), ())).bind fun r28 =>
      bif r28 then
       (impl_EndpointValid (r3.1, r3.2.2, ())).bind fun r29 =>
       k r29
      else
      k false
     else
     k false
    else
    k false
   else
   (loopF laws_FnEndpointSend_l0 ((0 : Int), (0 : Int), r2.1, r2.2.2, (r2.2.1.1, r2.2.1.2.1, r2.2.1.2.2.1, r2.2.1.2.2.2.1, ()), r3.1, r3.2.2, ())).bind fun q => endK q (fun z30 =>
    (impl_EndpointCancel (z30.2.2.2.2.1, z30.2.2.2.2.2.1, ()) z30.2.2.2.1.1).bind fun r32 =>
    bif (z30.1 == (1 : Int)) then
     bif r32.2.1 then
      (laws_sameEnd (r32.1, r32.2.2, ()) (z30.2.1, z30.2.2.1, ())).bind fun r33 =>
      bif r33 then
       (impl_EndpointValid (z30.2.2.2.2.1, z30.2.2.2.2.2.1, ())).bind fun r34 =>
       k r34
      else
      k false
     else
     k false
    else
    k false) (fun z31 =>
    k z31.1)
  else
  bif ((r3.2.2.length : Int) == (0 : Int)) then
   bif (r3.2.1 == (-1 : Int)) then
    (laws_alive).bind fun r35 =>
    k r35
   else
   k false
  else
  k false
 else
 k false
noncomputable def laws_FnEndpointSend (code1 : (List Int)) : Option (Bool) :=
  laws_FnEndpointSendK code1 some
theorem laws_FnEndpointSend_eq {γ : Type} (code1 : (List Int)) (k : Bool → Option γ) : laws_FnEndpointSendK code1 k = (laws_FnEndpointSend code1).bind k := by
  simp only [laws_FnEndpointSendK, laws_FnEndpointSend, B0, B1, B2, B3, B4, B5, B6, B7, B8, C1, C2, C3, C4, C5]

/-! loop.example/capkernel/spec.DrawEndpointTake -/
noncomputable def spec_DrawEndpointTakeK {γ : Type} (code1 : (List Int)) (k : Bool × Int × Int × (List DWaiter) → Option γ) : Option γ :=
 (spec_l20Open code1).bind fun r2 =>
 (spec_l20Endpoint (14 : Int) r2).bind fun r3 =>
 (spec_l20Waiter (14 : Int) r3.2.1).bind fun r4 =>
 k (r3.1, r4.1.1, r4.1.2.1, r3.2.2)
noncomputable def spec_DrawEndpointTake (code1 : (List Int)) : Option (Bool × Int × Int × (List DWaiter)) :=
  spec_DrawEndpointTakeK code1 some
theorem spec_DrawEndpointTake_eq {γ : Type} (code1 : (List Int)) (k : Bool × Int × Int × (List DWaiter) → Option γ) : spec_DrawEndpointTakeK code1 k = (spec_DrawEndpointTake code1).bind k := by
  simp only [spec_DrawEndpointTakeK, spec_DrawEndpointTake, B0, B1, B2, B3, B4, B5, B6, B7, B8, C1, C2, C3, C4, C5]

/-! loop.example/capkernel/laws.FnEndpointTake -/
noncomputable def laws_FnEndpointTake_l0K {γ : Type} (kq6 : Int) (b7 : Bool) (b8 : (List DWaiter)) (b9 : Bool) (b10 : (List DWaiter)) (b11 : DWaiter) (kn : Int × Bool × (List DWaiter) × Bool × (List DWaiter) × DWaiter × Unit → Option γ) (kx : Bool × (List DWaiter) × Bool × (List DWaiter) × DWaiter × Unit → Option γ) (kr : Bool × Unit → Option γ) : Option γ :=
 bif decide (kq6 < (b8.length : Int)) then
  nnK kq6 fun i12 =>
  getK b8 i12 fun v13 =>
  bif decide (v13.2.1 > b11.2.1) then
   kr (false, ())
  else
  kn ((IntKind.wrap .i64 (kq6 + (1 : Int))), b7, b8, b9, b10, b11, ())
 else
 kx (b7, b8, b9, b10, b11, ())
noncomputable def laws_FnEndpointTake_l0 (x : Int × Bool × (List DWaiter) × Bool × (List DWaiter) × DWaiter × Unit) : Option ((Int × Bool × (List DWaiter) × Bool × (List DWaiter) × DWaiter × Unit) ⊕ ((Bool × (List DWaiter) × Bool × (List DWaiter) × DWaiter × Unit) ⊕ (Bool × Unit))) :=
  laws_FnEndpointTake_l0K x.1 x.2.1 x.2.2.1 x.2.2.2.1 x.2.2.2.2.1 x.2.2.2.2.2.1 (fun y => some (.inl y)) (fun a => some (.inr (.inl a))) (fun b => some (.inr (.inr b)))
theorem laws_FnEndpointTake_l0_eq {γ : Type} (kq6 : Int) (b7 : Bool) (b8 : (List DWaiter)) (b9 : Bool) (b10 : (List DWaiter)) (b11 : DWaiter) (kn : Int × Bool × (List DWaiter) × Bool × (List DWaiter) × DWaiter × Unit → Option γ) (kx : Bool × (List DWaiter) × Bool × (List DWaiter) × DWaiter × Unit → Option γ) (kr : Bool × Unit → Option γ) : laws_FnEndpointTake_l0K kq6 b7 b8 b9 b10 b11 kn kx kr = (laws_FnEndpointTake_l0 (kq6, b7, b8, b9, b10, b11, ())).bind fun r => sum3K r kn kx kr := by
  simp only [laws_FnEndpointTake_l0K, laws_FnEndpointTake_l0, B0, B1, B2, B3, B4, B5, B6, B7, B8, C1, C2, C3, C4, C5]
noncomputable def laws_FnEndpointTakeK {γ : Type} (code1 : (List Int)) (k : Bool → Option γ) : Option γ :=
 bif decide ((code1.length : Int) > (1048576 : Int)) then
  k true
 else
 (spec_DrawEndpointTake code1).bind fun r2 =>
 (impl_EndpointTake (r2.1, r2.2.2.2, ()) r2.2.1 r2.2.2.1).bind fun r3 =>
 (spec_EndpointTake (r2.1, r2.2.2.2, ()) r2.2.1 r2.2.2.1).bind fun r4 =>
 (laws_sameEnd (r3.1, r3.2.2.2, ()) (r4.1, r4.2.2.2, ())).bind fun r5 =>
 bif (!(!r5)) then
  bif (!(!(decide (r3.2.1.1 = r4.2.1.1) && (decide (r3.2.1.2.1 = r4.2.1.2.1) && (decide (r3.2.1.2.2.1 = r4.2.1.2.2.1) && (decide (r3.2.1.2.2.2.1 = r4.2.1.2.2.2.1) && true)))))) then
   bif (!(r3.2.2.1 == r4.2.2.1)) then
    k false
   else
   bif r3.2.2.1 then
    (loopF laws_FnEndpointTake_l0 ((0 : Int), r2.1, r2.2.2.2, r3.1, r3.2.2.2, (r3.2.1.1, r3.2.1.2.1, r3.2.1.2.2.1, r3.2.1.2.2.2.1, ()), ())).bind fun q => endK q (fun z14 =>
     bif z14.1 then
      getK z14.2.1 0 fun v16 =>
      bif ((decide (z14.2.2.2.2.1.1 = v16.1) && (decide (z14.2.2.2.2.1.2.1 = v16.2.1) && (decide (z14.2.2.2.2.1.2.2.1 = v16.2.2.1) && (decide (z14.2.2.2.2.1.2.2.2.1 = v16.2.2.2.1) && true))))) then
       (impl_EndpointValid (z14.2.2.1, z14.2.2.2.1, ())).bind fun r17 =>
       bif r17 then
        k ((z14.2.2.2.1.length : Int) == (IntKind.wrap .i64 ((z14.2.1.length : Int) - (1 : Int))))
       else
       k false
      else
      k false
     else
     k false) (fun z15 =>
     k z15.1)
   else
   bif ((r3.2.2.2.length : Int) == (0 : Int)) then
    bif ((decide (r3.2.1.1 = (0 : Int)) && (decide (r3.2.1.2.1 = (0 : Int)) && (decide (r3.2.1.2.2.1 = (0 : Int)) && (decide (r3.2.1.2.2.2.1 = (0 : Int)) && true))))) then
     (laws_alive).bind fun r18 =>
     k r18
    else
    k false
   else
   (impl_EndpointCancel (r3.1, r3.2.2.2, ()) r2.2.1).bind fun r19 =>
   bif ((decide (r3.2.1.1 = (0 : Int)) && (decide (r3.2.1.2.1 = (0 : Int)) && (decide (r3.2.1.2.2.1 = (0 : Int)) && (decide (r3.2.1.2.2.2.1 = (0 : Int)) && true))))) then
    bif r19.2.1 then
     (laws_sameEnd (r19.1, r19.2.2, ()) (r2.1, r2.2.2.2, ())).bind fun r20 =>
     bif r20 then
      (impl_EndpointValid (r3.1, r3.2.2.2, ())).bind fun r21 =>
      k r21
     else
     k false
    else
    k false
   else
   k false
  else
  k false
 else
 k false
noncomputable def laws_FnEndpointTake (code1 : (List Int)) : Option (Bool) :=
  laws_FnEndpointTakeK code1 some
theorem laws_FnEndpointTake_eq {γ : Type} (code1 : (List Int)) (k : Bool → Option γ) : laws_FnEndpointTakeK code1 k = (laws_FnEndpointTake code1).bind k := by
  simp only [laws_FnEndpointTakeK, laws_FnEndpointTake, B0, B1, B2, B3, B4, B5, B6, B7, B8, C1, C2, C3, C4, C5]

end Go.Ev
