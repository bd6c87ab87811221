/-
  What the functions of the program compute, as functions of plain data; printed by a program of the prover.
-/
import Derived.Test.YtbiohjikepebkaaEv3
namespace Go.Ev
set_option linter.unusedVariables false
set_option linter.unusedSimpArgs false
set_option maxRecDepth 100000
abbrev I : Ty := .int .i64
abbrev DQueues : Type := (List (List Int)) × Unit
abbrev tQueues : Ty := .cons (.sl (.sl I)) (.nil)
abbrev Dl20Rd : Type := (List Int) × Int × Unit
abbrev tl20Rd : Ty := .cons (.sl (.int .u8)) (.cons I (.nil))
/-! loop.example/capkernel/impl.NewQueues -/
noncomputable def impl_NewQueuesK {γ : Type}  (k : (List (List Int)) → Option γ) : Option γ :=
 k [[], [], [], [], [], [], [], []]
noncomputable def impl_NewQueues  : Option ((List (List Int))) :=
  impl_NewQueuesK  some
theorem impl_NewQueues_eq {γ : Type}  (k : (List (List Int)) → Option γ) : impl_NewQueuesK  k = (impl_NewQueues ).bind k := by
  simp only [impl_NewQueuesK, impl_NewQueues, B0, B1, B2, B3, B4, B5, B6, B7, B8, C1, C2, C3, C4, C5]

/-! loop.example/capkernel/spec.NewQueues -/
noncomputable def spec_NewQueuesK {γ : Type}  (k : (List (List Int)) → Option γ) : Option γ :=
 k [[], [], [], [], [], [], [], []]
noncomputable def spec_NewQueues  : Option ((List (List Int))) :=
  spec_NewQueuesK  some
theorem spec_NewQueues_eq {γ : Type}  (k : (List (List Int)) → Option γ) : spec_NewQueuesK  k = (spec_NewQueues ).bind k := by
  simp only [spec_NewQueuesK, spec_NewQueues, B0, B1, B2, B3, B4, B5, B6, B7, B8, C1, C2, C3, C4, C5]

/-! loop.example/capkernel/laws.sameInts -/
noncomputable def laws_sameInts_l0K {γ : Type} (a3 : (List Int)) (b4 : (List Int)) (i5 : Int) (kn : (List Int) × (List Int) × Int × Unit → Option γ) (kx : Unit → Option γ) (kr : Bool × Unit → Option γ) : Option γ :=
 bif decide (i5 < (a3.length : Int)) then
  nnK i5 fun i6 =>
  getK a3 i6 fun v7 =>
  nnK i5 fun i8 =>
  getK b4 i8 fun v9 =>
  bif (v7 != v9) then
   kr (false, ())
  else
  kn (a3, b4, (IntKind.wrap .i64 (i5 + (1 : Int))), ())
 else
 kx ()
noncomputable def laws_sameInts_l0 (x : (List Int) × (List Int) × Int × Unit) : Option (((List Int) × (List Int) × Int × Unit) ⊕ ((Unit) ⊕ (Bool × Unit))) :=
  laws_sameInts_l0K x.1 x.2.1 x.2.2.1 (fun y => some (.inl y)) (fun a => some (.inr (.inl a))) (fun b => some (.inr (.inr b)))
theorem laws_sameInts_l0_eq {γ : Type} (a3 : (List Int)) (b4 : (List Int)) (i5 : Int) (kn : (List Int) × (List Int) × Int × Unit → Option γ) (kx : Unit → Option γ) (kr : Bool × Unit → Option γ) : laws_sameInts_l0K a3 b4 i5 kn kx kr = (laws_sameInts_l0 (a3, b4, i5, ())).bind fun r => sum3K r kn kx kr := by
  simp only [laws_sameInts_l0K, laws_sameInts_l0, B0, B1, B2, B3, B4, B5, B6, B7, B8, C1, C2, C3, C4, C5]
noncomputable def laws_sameIntsK {γ : Type} (a1 : (List Int)) (b2 : (List Int)) (k : Bool → Option γ) : Option γ :=
 bif ((a1.length : Int) != (b2.length : Int)) then
  k false
 else
 (loopF laws_sameInts_l0 (a1, b2, (0 : Int), ())).bind fun q => endK q (fun z10 =>
  k true) (fun z11 =>
  k z11.1)
noncomputable def laws_sameInts (a1 : (List Int)) (b2 : (List Int)) : Option (Bool) :=
  laws_sameIntsK a1 b2 some
theorem laws_sameInts_eq {γ : Type} (a1 : (List Int)) (b2 : (List Int)) (k : Bool → Option γ) : laws_sameIntsK a1 b2 k = (laws_sameInts a1 b2).bind k := by
  simp only [laws_sameIntsK, laws_sameInts, B0, B1, B2, B3, B4, B5, B6, B7, B8, C1, C2, C3, C4, C5]

/-! loop.example/capkernel/laws.sameRows -/
noncomputable def laws_sameRows_l0K {γ : Type} (a3 : (List (List Int))) (b4 : (List (List Int))) (i5 : Int) (kn : (List (List Int)) × (List (List Int)) × Int × Unit → Option γ) (kx : Unit → Option γ) (kr : Bool × Unit → Option γ) : Option γ :=
 bif decide (i5 < (a3.length : Int)) then
  nnK i5 fun i6 =>
  getK a3 i6 fun v7 =>
  nnK i5 fun i8 =>
  getK b4 i8 fun v9 =>
  (laws_sameInts v7 v9).bind fun r10 =>
  bif (!r10) then
   kr (false, ())
  else
  kn (a3, b4, (IntKind.wrap .i64 (i5 + (1 : Int))), ())
 else
 kx ()
noncomputable def laws_sameRows_l0 (x : (List (List Int)) × (List (List Int)) × Int × Unit) : Option (((List (List Int)) × (List (List Int)) × Int × Unit) ⊕ ((Unit) ⊕ (Bool × Unit))) :=
  laws_sameRows_l0K x.1 x.2.1 x.2.2.1 (fun y => some (.inl y)) (fun a => some (.inr (.inl a))) (fun b => some (.inr (.inr b)))
theorem laws_sameRows_l0_eq {γ : Type} (a3 : (List (List Int))) (b4 : (List (List Int))) (i5 : Int) (kn : (List (List Int)) × (List (List Int)) × Int × Unit → Option γ) (kx : Unit → Option γ) (kr : Bool × Unit → Option γ) : laws_sameRows_l0K a3 b4 i5 kn kx kr = (laws_sameRows_l0 (a3, b4, i5, ())).bind fun r => sum3K r kn kx kr := by
  simp only [laws_sameRows_l0K, laws_sameRows_l0, B0, B1, B2, B3, B4, B5, B6, B7, B8, C1, C2, C3, C4, C5]
noncomputable def laws_sameRowsK {γ : Type} (a1 : (List (List Int))) (b2 : (List (List Int))) (k : Bool → Option γ) : Option γ :=
 bif ((a1.length : Int) != (b2.length : Int)) then
  k false
 else
 (loopF laws_sameRows_l0 (a1, b2, (0 : Int), ())).bind fun q => endK q (fun z11 =>
  k true) (fun z12 =>
  k z12.1)
noncomputable def laws_sameRows (a1 : (List (List Int))) (b2 : (List (List Int))) : Option (Bool) :=
  laws_sameRowsK a1 b2 some
theorem laws_sameRows_eq {γ : Type} (a1 : (List (List Int))) (b2 : (List (List Int))) (k : Bool → Option γ) : laws_sameRowsK a1 b2 k = (laws_sameRows a1 b2).bind k := by
  simp only [laws_sameRowsK, laws_sameRows, B0, B1, B2, B3, B4, B5, B6, B7, B8, C1, C2, C3, C4, C5]

/-! loop.example/capkernel/laws.sameQueues -/
noncomputable def laws_sameQueuesK {γ : Type} (a1 : DQueues) (b2 : DQueues) (k : Bool → Option γ) : Option γ :=
 (laws_sameRows a1.1 b2.1).bind fun r3 =>
 k r3
noncomputable def laws_sameQueues (a1 : DQueues) (b2 : DQueues) : Option (Bool) :=
  laws_sameQueuesK a1 b2 some
theorem laws_sameQueues_eq {γ : Type} (a1 : DQueues) (b2 : DQueues) (k : Bool → Option γ) : laws_sameQueuesK a1 b2 k = (laws_sameQueues a1 b2).bind k := by
  simp only [laws_sameQueuesK, laws_sameQueues, B0, B1, B2, B3, B4, B5, B6, B7, B8, C1, C2, C3, C4, C5]

/-! slices.Grow(()int,int) -/
noncomputable def slices_Grow_intK {γ : Type} (n1 : Int) (k : Nat × (List Int) → Option γ) : Option γ :=
 bif decide (n1 < (0 : Int)) then
  none
 else
 bif decide ((IntKind.wrap .i64 (n1 - (IntKind.wrap .i64 ((0 : Int) - (0 : Int))))) > (0 : Int)) then
  nnK (IntKind.wrap .i64 (n1 - (IntKind.wrap .i64 ((0 : Int) - (0 : Int))))) fun i2 =>
  chk (i2 ≤ bigRow) <|
  chk ((List.replicate i2 (0 : Int)).length ≤ bigRow) <|
  chk (0 ≤ (List.replicate i2 (0 : Int)).length) <|
  k (0, (List.replicate i2 (0 : Int)))
 else
 k (0, [])
noncomputable def slices_Grow_int (n1 : Int) : Option (Nat × (List Int)) :=
  slices_Grow_intK n1 some
theorem slices_Grow_int_eq {γ : Type} (n1 : Int) (k : Nat × (List Int) → Option γ) : slices_Grow_intK n1 k = (slices_Grow_int n1).bind k := by
  simp only [slices_Grow_intK, slices_Grow_int, B0, B1, B2, B3, B4, B5, B6, B7, B8, C1, C2, C3, C4, C5]

/-! slices.Concat(()int,int) -/
noncomputable def slices_Concat_int_l2K {γ : Type} (newslice11 : Nat) (a12 : (List (List Int))) (a13 : Int) (a14 : Int) (b15 : (List Int)) (kn : Nat × (List (List Int)) × Int × Int × (List Int) × Unit → Option γ) (kx : Nat × (List Int) × Unit → Option γ) : Option γ :=
 bif decide (a14 < a13) then
  nnK a14 fun i16 =>
  getK a12 i16 fun v17 =>
  chk (((0 + newslice11) + v17.length) ≤ b15.length) <|
  kn ((newslice11 + v17.length), a12, a13, (IntKind.wrap .i64 (a14 + (1 : Int))), (over b15 (0 + newslice11) v17), ())
 else
 kx (newslice11, b15, ())
noncomputable def slices_Concat_int_l2 (x : Nat × (List (List Int)) × Int × Int × (List Int) × Unit) : Option ((Nat × (List (List Int)) × Int × Int × (List Int) × Unit) ⊕ (Nat × (List Int) × Unit)) :=
  slices_Concat_int_l2K x.1 x.2.1 x.2.2.1 x.2.2.2.1 x.2.2.2.2.1 (fun y => some (.inl y)) (fun a => some (.inr a))
theorem slices_Concat_int_l2_eq {γ : Type} (newslice11 : Nat) (a12 : (List (List Int))) (a13 : Int) (a14 : Int) (b15 : (List Int)) (kn : Nat × (List (List Int)) × Int × Int × (List Int) × Unit → Option γ) (kx : Nat × (List Int) × Unit → Option γ) : slices_Concat_int_l2K newslice11 a12 a13 a14 b15 kn kx = (slices_Concat_int_l2 (newslice11, a12, a13, a14, b15, ())).bind fun r => sum2K r kn kx := by
  simp only [slices_Concat_int_l2K, slices_Concat_int_l2, B0, B1, B2, B3, B4, B5, B6, B7, B8, C1, C2, C3, C4, C5]
noncomputable def slices_Concat_int_l0K {γ : Type} (slices2 : (List (List Int))) (size3 : Int) (a4 : (List (List Int))) (a5 : Int) (a6 : Int) (kn : (List (List Int)) × Int × (List (List Int)) × Int × Int × Unit → Option γ) (kx : (List (List Int)) × Int × Unit → Option γ) : Option γ :=
 bif decide (a6 < a5) then
  nnK a6 fun i7 =>
  getK a4 i7 fun v8 =>
  bif decide ((IntKind.wrap .i64 (size3 + (v8.length : Int))) < (0 : Int)) then
   none
  else
  kn (slices2, (IntKind.wrap .i64 (size3 + (v8.length : Int))), a4, a5, (IntKind.wrap .i64 (a6 + (1 : Int))), ())
 else
 kx (slices2, size3, ())
noncomputable def slices_Concat_int_l0 (x : (List (List Int)) × Int × (List (List Int)) × Int × Int × Unit) : Option (((List (List Int)) × Int × (List (List Int)) × Int × Int × Unit) ⊕ ((List (List Int)) × Int × Unit)) :=
  slices_Concat_int_l0K x.1 x.2.1 x.2.2.1 x.2.2.2.1 x.2.2.2.2.1 (fun y => some (.inl y)) (fun a => some (.inr a))
theorem slices_Concat_int_l0_eq {γ : Type} (slices2 : (List (List Int))) (size3 : Int) (a4 : (List (List Int))) (a5 : Int) (a6 : Int) (kn : (List (List Int)) × Int × (List (List Int)) × Int × Int × Unit → Option γ) (kx : (List (List Int)) × Int × Unit → Option γ) : slices_Concat_int_l0K slices2 size3 a4 a5 a6 kn kx = (slices_Concat_int_l0 (slices2, size3, a4, a5, a6, ())).bind fun r => sum2K r kn kx := by
  simp only [slices_Concat_int_l0K, slices_Concat_int_l0, B0, B1, B2, B3, B4, B5, B6, B7, B8, C1, C2, C3, C4, C5]
noncomputable def slices_Concat_intK {γ : Type} (slices1 : (List (List Int))) (k : Nat × (List Int) → Option γ) : Option γ :=
 (loopF slices_Concat_int_l0 (slices1, (0 : Int), slices1, (slices1.length : Int), (0 : Int), ())).bind fun z9 =>
 (slices_Grow_int z9.2.1).bind fun r10 =>
 (loopF slices_Concat_int_l2 (r10.1, z9.1, (z9.1.length : Int), (0 : Int), r10.2, ())).bind fun z18 =>
 k (z18.1, z18.2.1)
noncomputable def slices_Concat_int (slices1 : (List (List Int))) : Option (Nat × (List Int)) :=
  slices_Concat_intK slices1 some
theorem slices_Concat_int_eq {γ : Type} (slices1 : (List (List Int))) (k : Nat × (List Int) → Option γ) : slices_Concat_intK slices1 k = (slices_Concat_int slices1).bind k := by
  simp only [slices_Concat_intK, slices_Concat_int, B0, B1, B2, B3, B4, B5, B6, B7, B8, C1, C2, C3, C4, C5]

/-! loop.example/capkernel/impl.in -/
noncomputable def impl_inK {γ : Type} (n1 : Int) (lo2 : Int) (hi3 : Int) (k : Bool → Option γ) : Option γ :=
 bif decide (n1 ≥ lo2) then
  k (decide (n1 ≤ hi3))
 else
 k false
noncomputable def impl_in (n1 : Int) (lo2 : Int) (hi3 : Int) : Option (Bool) :=
  impl_inK n1 lo2 hi3 some
theorem impl_in_eq {γ : Type} (n1 : Int) (lo2 : Int) (hi3 : Int) (k : Bool → Option γ) : impl_inK n1 lo2 hi3 k = (impl_in n1 lo2 hi3).bind k := by
  simp only [impl_inK, impl_in, B0, B1, B2, B3, B4, B5, B6, B7, B8, C1, C2, C3, C4, C5]

/-! loop.example/capkernel/impl.isThread -/
noncomputable def impl_isThreadK {γ : Type} (n1 : Int) (k : Bool → Option γ) : Option γ :=
 (impl_in n1 (0 : Int) (15 : Int)).bind fun r2 =>
 k r2
noncomputable def impl_isThread (n1 : Int) : Option (Bool) :=
  impl_isThreadK n1 some
theorem impl_isThread_eq {γ : Type} (n1 : Int) (k : Bool → Option γ) : impl_isThreadK n1 k = (impl_isThread n1).bind k := by
  simp only [impl_isThreadK, impl_isThread, B0, B1, B2, B3, B4, B5, B6, B7, B8, C1, C2, C3, C4, C5]

/-! slices.Index(()int,int) -/
noncomputable def slices_Index_int_l0K {γ : Type} (sq3 : (List Int)) (a4 : Int) (a5 : Int) (a6 : Int) (kn : (List Int) × Int × Int × Int × Unit → Option γ) (kx : Unit → Option γ) (kr : Int × Unit → Option γ) : Option γ :=
 bif decide (a6 < a5) then
  nnK a6 fun i7 =>
  getK sq3 i7 fun v8 =>
  bif (a4 == v8) then
   kr (a6, ())
  else
  kn (sq3, a4, a5, (IntKind.wrap .i64 (a6 + (1 : Int))), ())
 else
 kx ()
noncomputable def slices_Index_int_l0 (x : (List Int) × Int × Int × Int × Unit) : Option (((List Int) × Int × Int × Int × Unit) ⊕ ((Unit) ⊕ (Int × Unit))) :=
  slices_Index_int_l0K x.1 x.2.1 x.2.2.1 x.2.2.2.1 (fun y => some (.inl y)) (fun a => some (.inr (.inl a))) (fun b => some (.inr (.inr b)))
theorem slices_Index_int_l0_eq {γ : Type} (sq3 : (List Int)) (a4 : Int) (a5 : Int) (a6 : Int) (kn : (List Int) × Int × Int × Int × Unit → Option γ) (kx : Unit → Option γ) (kr : Int × Unit → Option γ) : slices_Index_int_l0K sq3 a4 a5 a6 kn kx kr = (slices_Index_int_l0 (sq3, a4, a5, a6, ())).bind fun r => sum3K r kn kx kr := by
  simp only [slices_Index_int_l0K, slices_Index_int_l0, B0, B1, B2, B3, B4, B5, B6, B7, B8, C1, C2, C3, C4, C5]
noncomputable def slices_Index_intK {γ : Type} (sq1 : (List Int)) (p2 : Int) (k : Int → Option γ) : Option γ :=
 (loopF slices_Index_int_l0 (sq1, p2, (sq1.length : Int), (0 : Int), ())).bind fun q => endK q (fun z9 =>
  k (-1 : Int)) (fun z10 =>
  k z10.1)
noncomputable def slices_Index_int (sq1 : (List Int)) (p2 : Int) : Option (Int) :=
  slices_Index_intK sq1 p2 some
theorem slices_Index_int_eq {γ : Type} (sq1 : (List Int)) (p2 : Int) (k : Int → Option γ) : slices_Index_intK sq1 p2 k = (slices_Index_int sq1 p2).bind k := by
  simp only [slices_Index_intK, slices_Index_int, B0, B1, B2, B3, B4, B5, B6, B7, B8, C1, C2, C3, C4, C5]

/-! slices.Contains(()int,int) -/
noncomputable def slices_Contains_intK {γ : Type} (sq1 : (List Int)) (p2 : Int) (k : Bool → Option γ) : Option γ :=
 (slices_Index_int sq1 p2).bind fun r3 =>
 k (decide (r3 ≥ (0 : Int)))
noncomputable def slices_Contains_int (sq1 : (List Int)) (p2 : Int) : Option (Bool) :=
  slices_Contains_intK sq1 p2 some
theorem slices_Contains_int_eq {γ : Type} (sq1 : (List Int)) (p2 : Int) (k : Bool → Option γ) : slices_Contains_intK sq1 p2 k = (slices_Contains_int sq1 p2).bind k := by
  simp only [slices_Contains_intK, slices_Contains_int, B0, B1, B2, B3, B4, B5, B6, B7, B8, C1, C2, C3, C4, C5]

/-! loop.example/capkernel/impl.different -/
noncomputable def impl_different_l0K {γ : Type} (list2 : (List Int)) (a3 : (List Int)) (a4 : Int) (a5 : Int) (kn : (List Int) × (List Int) × Int × Int × Unit → Option γ) (kx : Unit → Option γ) (kr : Bool × Unit → Option γ) : Option γ :=
 bif decide (a5 < a4) then
  nnK a5 fun i6 =>
  getK a3 i6 fun v7 =>
  (impl_isThread v7).bind fun r8 =>
  bif (!(!r8)) then
   nnK a5 fun i9 =>
   chk (i9 ≤ list2.length) <|
   (slices_Contains_int (list2.take i9) v7).bind fun r10 =>
   bif r10 then
    kr (false, ())
   else
   kn (list2, a3, a4, (IntKind.wrap .i64 (a5 + (1 : Int))), ())
  else
  kr (false, ())
 else
 kx ()
noncomputable def impl_different_l0 (x : (List Int) × (List Int) × Int × Int × Unit) : Option (((List Int) × (List Int) × Int × Int × Unit) ⊕ ((Unit) ⊕ (Bool × Unit))) :=
  impl_different_l0K x.1 x.2.1 x.2.2.1 x.2.2.2.1 (fun y => some (.inl y)) (fun a => some (.inr (.inl a))) (fun b => some (.inr (.inr b)))
theorem impl_different_l0_eq {γ : Type} (list2 : (List Int)) (a3 : (List Int)) (a4 : Int) (a5 : Int) (kn : (List Int) × (List Int) × Int × Int × Unit → Option γ) (kx : Unit → Option γ) (kr : Bool × Unit → Option γ) : impl_different_l0K list2 a3 a4 a5 kn kx kr = (impl_different_l0 (list2, a3, a4, a5, ())).bind fun r => sum3K r kn kx kr := by
  simp only [impl_different_l0K, impl_different_l0, B0, B1, B2, B3, B4, B5, B6, B7, B8, C1, C2, C3, C4, C5]
noncomputable def impl_differentK {γ : Type} (list1 : (List Int)) (k : Bool → Option γ) : Option γ :=
 (loopF impl_different_l0 (list1, list1, (list1.length : Int), (0 : Int), ())).bind fun q => endK q (fun z11 =>
  k true) (fun z12 =>
  k z12.1)
noncomputable def impl_different (list1 : (List Int)) : Option (Bool) :=
  impl_differentK list1 some
theorem impl_different_eq {γ : Type} (list1 : (List Int)) (k : Bool → Option γ) : impl_differentK list1 k = (impl_different list1).bind k := by
  simp only [impl_differentK, impl_different, B0, B1, B2, B3, B4, B5, B6, B7, B8, C1, C2, C3, C4, C5]

/-! loop.example/capkernel/impl.QueuesValid -/
noncomputable def impl_QueuesValidK {γ : Type} (q1 : DQueues) (k : Bool → Option γ) : Option γ :=
 bif ((q1.1.length : Int) == (8 : Int)) then
  (slices_Concat_int q1.1).bind fun r2 =>
  (impl_different ((r2.2.drop 0).take r2.1)).bind fun r3 =>
  k r3
 else
 k false
noncomputable def impl_QueuesValid (q1 : DQueues) : Option (Bool) :=
  impl_QueuesValidK q1 some
theorem impl_QueuesValid_eq {γ : Type} (q1 : DQueues) (k : Bool → Option γ) : impl_QueuesValidK q1 k = (impl_QueuesValid q1).bind k := by
  simp only [impl_QueuesValidK, impl_QueuesValid, B0, B1, B2, B3, B4, B5, B6, B7, B8, C1, C2, C3, C4, C5]

/-! loop.example/capkernel/impl.isPrio -/
noncomputable def impl_isPrioK {γ : Type} (n1 : Int) (k : Bool → Option γ) : Option γ :=
 (impl_in n1 (0 : Int) (7 : Int)).bind fun r2 =>
 k r2
noncomputable def impl_isPrio (n1 : Int) : Option (Bool) :=
  impl_isPrioK n1 some
theorem impl_isPrio_eq {γ : Type} (n1 : Int) (k : Bool → Option γ) : impl_isPrioK n1 k = (impl_isPrio n1).bind k := by
  simp only [impl_isPrioK, impl_isPrio, B0, B1, B2, B3, B4, B5, B6, B7, B8, C1, C2, C3, C4, C5]

/-! slices.Clone(()int,int) -/
noncomputable def slices_Clone_intR {γ : Type} (sq1 : (List Int)) (k : (List Int) → Option γ) : Option γ :=
 bif sq1.isEmpty then both
  (k [])
  (chk (sq1.length ≤ bigRow) <|
  k sq1)
 else
 chk (sq1.length ≤ bigRow) <|
 k sq1
noncomputable def slices_Clone_intK {γ : Type} (sq1 : (List Int)) (k : (List Int) → Option γ) : Option γ :=
  chk (sq1.length ≤ bigRow) (k sq1)
theorem slices_Clone_int_raw {γ : Type} (sq1 : (List Int)) (k : (List Int) → Option γ) : slices_Clone_intR sq1 k = slices_Clone_intK sq1 k := by
  cases sq1 with
  | nil => simp [slices_Clone_intR, slices_Clone_intK, both, chk, bigRow]
  | cons a r => simp [slices_Clone_intR, slices_Clone_intK, chk]
noncomputable def slices_Clone_int (sq1 : (List Int)) : Option ((List Int)) :=
  slices_Clone_intK sq1 some
theorem slices_Clone_int_eq {γ : Type} (sq1 : (List Int)) (k : (List Int) → Option γ) : slices_Clone_intK sq1 k = (slices_Clone_int sq1).bind k := by
  simp only [slices_Clone_intK, slices_Clone_int, B0, B1, B2, B3, B4, B5, B6, B7, B8, C1, C2, C3, C4, C5]

/-! slices.Clip(()int,int) -/
noncomputable def slices_Clip_intK {γ : Type} (b1 : (List Int)) (k : (List Int) → Option γ) : Option γ :=
 chk (0 ≤ b1.length ∧ b1.length ≤ b1.length ∧ b1.length ≤ b1.length) <|
 chk (0 = 0 ∧ b1.length = b1.length) <|
 k b1
noncomputable def slices_Clip_int (b1 : (List Int)) : Option ((List Int)) :=
  slices_Clip_intK b1 some
theorem slices_Clip_int_eq {γ : Type} (b1 : (List Int)) (k : (List Int) → Option γ) : slices_Clip_intK b1 k = (slices_Clip_int b1).bind k := by
  simp only [slices_Clip_intK, slices_Clip_int, B0, B1, B2, B3, B4, B5, B6, B7, B8, C1, C2, C3, C4, C5]

/-! loop.example/capkernel/impl.clone(int) -/
noncomputable def impl_clone_intK {γ : Type} (list1 : (List Int)) (k : (List Int) → Option γ) : Option γ :=
 (slices_Clone_int list1).bind fun r2 =>
 (slices_Clip_int r2).bind fun r3 =>
 k r3
noncomputable def impl_clone_int (list1 : (List Int)) : Option ((List Int)) :=
  impl_clone_intK list1 some
theorem impl_clone_int_eq {γ : Type} (list1 : (List Int)) (k : (List Int) → Option γ) : impl_clone_intK list1 k = (impl_clone_int list1).bind k := by
  simp only [impl_clone_intK, impl_clone_int, B0, B1, B2, B3, B4, B5, B6, B7, B8, C1, C2, C3, C4, C5]

/-! (loop.example/capkernel/impl.Queues).copyOf -/
noncomputable def impl_Queues_copyOf_l0K {γ : Type} (a2 : (List (List Int))) (a3 : Int) (a4 : Int) (b5 : (List (List Int))) (kn : (List (List Int)) × Int × Int × (List (List Int)) × Unit → Option γ) (kx : (List (List Int)) × Unit → Option γ) : Option γ :=
 bif decide (a4 < a3) then
  nnK a4 fun i6 =>
  getK a2 i6 fun v7 =>
  (impl_clone_int v7).bind fun r8 =>
  nnK a4 fun i9 =>
  chk (i9 < b5.length) <|
  chk (i9 < b5.length) <|
  kn (a2, a3, (IntKind.wrap .i64 (a4 + (1 : Int))), (b5.set i9 r8), ())
 else
 kx (b5, ())
noncomputable def impl_Queues_copyOf_l0 (x : (List (List Int)) × Int × Int × (List (List Int)) × Unit) : Option (((List (List Int)) × Int × Int × (List (List Int)) × Unit) ⊕ ((List (List Int)) × Unit)) :=
  impl_Queues_copyOf_l0K x.1 x.2.1 x.2.2.1 x.2.2.2.1 (fun y => some (.inl y)) (fun a => some (.inr a))
theorem impl_Queues_copyOf_l0_eq {γ : Type} (a2 : (List (List Int))) (a3 : Int) (a4 : Int) (b5 : (List (List Int))) (kn : (List (List Int)) × Int × Int × (List (List Int)) × Unit → Option γ) (kx : (List (List Int)) × Unit → Option γ) : impl_Queues_copyOf_l0K a2 a3 a4 b5 kn kx = (impl_Queues_copyOf_l0 (a2, a3, a4, b5, ())).bind fun r => sum2K r kn kx := by
  simp only [impl_Queues_copyOf_l0K, impl_Queues_copyOf_l0, B0, B1, B2, B3, B4, B5, B6, B7, B8, C1, C2, C3, C4, C5]
noncomputable def impl_Queues_copyOfK {γ : Type} (q1 : DQueues) (k : (List (List Int)) → Option γ) : Option γ :=
 chk (q1.1.length ≤ bigRow) <|
 (loopF impl_Queues_copyOf_l0 (q1.1, (q1.1.length : Int), (0 : Int), (List.replicate q1.1.length []), ())).bind fun z10 =>
 k z10.1
noncomputable def impl_Queues_copyOf (q1 : DQueues) : Option ((List (List Int))) :=
  impl_Queues_copyOfK q1 some
theorem impl_Queues_copyOf_eq {γ : Type} (q1 : DQueues) (k : (List (List Int)) → Option γ) : impl_Queues_copyOfK q1 k = (impl_Queues_copyOf q1).bind k := by
  simp only [impl_Queues_copyOfK, impl_Queues_copyOf, B0, B1, B2, B3, B4, B5, B6, B7, B8, C1, C2, C3, C4, C5]

/-! (loop.example/capkernel/impl.Queues).prio$1 -/
noncomputable def impl_Queues_prio_c1K {γ : Type} (list1 : (List Int)) (p2 : Int) (k : Bool → Option γ) : Option γ :=
 (slices_Contains_int list1 p2).bind fun r3 =>
 k r3
noncomputable def impl_Queues_prio_c1 (list1 : (List Int)) (p2 : Int) : Option (Bool) :=
  impl_Queues_prio_c1K list1 p2 some
theorem impl_Queues_prio_c1_eq {γ : Type} (list1 : (List Int)) (p2 : Int) (k : Bool → Option γ) : impl_Queues_prio_c1K list1 p2 k = (impl_Queues_prio_c1 list1 p2).bind k := by
  simp only [impl_Queues_prio_c1K, impl_Queues_prio_c1, B0, B1, B2, B3, B4, B5, B6, B7, B8, C1, C2, C3, C4, C5]

/-! slices.IndexFunc(()()int,()int) -/
noncomputable def slices_IndexFunc_int_l0K {γ : Type} (sq3 : (List (List Int))) (f4 : Int) (a5 : Int) (a6 : Int) (kn : (List (List Int)) × Int × Int × Int × Unit → Option γ) (kx : Unit → Option γ) (kr : Int × Unit → Option γ) : Option γ :=
 bif decide (a6 < a5) then
  nnK a6 fun i7 =>
  getK sq3 i7 fun v8 =>
  (impl_Queues_prio_c1 v8 f4).bind fun r9 =>
  bif r9 then
   kr (a6, ())
  else
  kn (sq3, f4, a5, (IntKind.wrap .i64 (a6 + (1 : Int))), ())
 else
 kx ()
noncomputable def slices_IndexFunc_int_l0 (x : (List (List Int)) × Int × Int × Int × Unit) : Option (((List (List Int)) × Int × Int × Int × Unit) ⊕ ((Unit) ⊕ (Int × Unit))) :=
  slices_IndexFunc_int_l0K x.1 x.2.1 x.2.2.1 x.2.2.2.1 (fun y => some (.inl y)) (fun a => some (.inr (.inl a))) (fun b => some (.inr (.inr b)))
theorem slices_IndexFunc_int_l0_eq {γ : Type} (sq3 : (List (List Int))) (f4 : Int) (a5 : Int) (a6 : Int) (kn : (List (List Int)) × Int × Int × Int × Unit → Option γ) (kx : Unit → Option γ) (kr : Int × Unit → Option γ) : slices_IndexFunc_int_l0K sq3 f4 a5 a6 kn kx kr = (slices_IndexFunc_int_l0 (sq3, f4, a5, a6, ())).bind fun r => sum3K r kn kx kr := by
  simp only [slices_IndexFunc_int_l0K, slices_IndexFunc_int_l0, B0, B1, B2, B3, B4, B5, B6, B7, B8, C1, C2, C3, C4, C5]
noncomputable def slices_IndexFunc_intK {γ : Type} (sq1 : (List (List Int))) (f2 : Int) (k : Int → Option γ) : Option γ :=
 (loopF slices_IndexFunc_int_l0 (sq1, f2, (sq1.length : Int), (0 : Int), ())).bind fun q => endK q (fun z10 =>
  k (-1 : Int)) (fun z11 =>
  k z11.1)
noncomputable def slices_IndexFunc_int (sq1 : (List (List Int))) (f2 : Int) : Option (Int) :=
  slices_IndexFunc_intK sq1 f2 some
theorem slices_IndexFunc_int_eq {γ : Type} (sq1 : (List (List Int))) (f2 : Int) (k : Int → Option γ) : slices_IndexFunc_intK sq1 f2 k = (slices_IndexFunc_int sq1 f2).bind k := by
  simp only [slices_IndexFunc_intK, slices_IndexFunc_int, B0, B1, B2, B3, B4, B5, B6, B7, B8, C1, C2, C3, C4, C5]

/-! (loop.example/capkernel/impl.Queues).prio -/
noncomputable def impl_Queues_prioK {γ : Type} (q1 : DQueues) (thread2 : Int) (k : Int → Option γ) : Option γ :=
 (slices_IndexFunc_int q1.1 thread2).bind fun r3 =>
 k r3
noncomputable def impl_Queues_prio (q1 : DQueues) (thread2 : Int) : Option (Int) :=
  impl_Queues_prioK q1 thread2 some
theorem impl_Queues_prio_eq {γ : Type} (q1 : DQueues) (thread2 : Int) (k : Int → Option γ) : impl_Queues_prioK q1 thread2 k = (impl_Queues_prio q1 thread2).bind k := by
  simp only [impl_Queues_prioK, impl_Queues_prio, B0, B1, B2, B3, B4, B5, B6, B7, B8, C1, C2, C3, C4, C5]

/-! loop.example/capkernel/impl.ReadyAdd -/
noncomputable def impl_ReadyAddK {γ : Type} (q1 : DQueues) (thread2 : Int) (prio3 : Int) (k : Bool × (List (List Int)) → Option γ) : Option γ :=
 (impl_QueuesValid (q1.1, ())).bind fun r4 =>
 bif (!(!r4)) then
  (impl_isThread thread2).bind fun r5 =>
  bif (!(!r5)) then
   (impl_isPrio prio3).bind fun r6 =>
   bif (!r6) then
    k (false, [])
   else
   (impl_Queues_copyOf (q1.1, ())).bind fun r7 =>
   (impl_Queues_prio (q1.1, ()) thread2).bind fun r8 =>
   bif decide (r8 ≥ (0 : Int)) then
    k (false, r7)
   else
   nnK prio3 fun i9 =>
   chk (i9 < r7.length) <|
   getK r7 i9 fun v10 =>
   chk ((v10.length + 1) ≤ bigRow) <|
   (impl_clone_int (v10 ++ [thread2])).bind fun r11 =>
   nnK prio3 fun i12 =>
   chk (i12 < r7.length) <|
   chk (i12 < r7.length) <|
   chk (i9 = i12) <|
   k (true, (r7.set i12 r11))
  else
  k (false, [])
 else
 k (false, [])
noncomputable def impl_ReadyAdd (q1 : DQueues) (thread2 : Int) (prio3 : Int) : Option (Bool × (List (List Int))) :=
  impl_ReadyAddK q1 thread2 prio3 some
theorem impl_ReadyAdd_eq {γ : Type} (q1 : DQueues) (thread2 : Int) (prio3 : Int) (k : Bool × (List (List Int)) → Option γ) : impl_ReadyAddK q1 thread2 prio3 k = (impl_ReadyAdd q1 thread2 prio3).bind k := by
  simp only [impl_ReadyAddK, impl_ReadyAdd, B0, B1, B2, B3, B4, B5, B6, B7, B8, C1, C2, C3, C4, C5]

/-! (loop.example/capkernel/impl.Queues).top -/
noncomputable def impl_Queues_top_l0K {γ : Type} (q2 : DQueues) (prio3 : Int) (kn : DQueues × Int × Unit → Option γ) (kx : Unit → Option γ) (kr : Int × Unit → Option γ) : Option γ :=
 bif decide (prio3 ≥ (0 : Int)) then
  nnK prio3 fun i4 =>
  getK q2.1 i4 fun v5 =>
  bif decide ((v5.length : Int) > (0 : Int)) then
   kr (prio3, ())
  else
  kn (q2, (IntKind.wrap .i64 (prio3 - (1 : Int))), ())
 else
 kx ()
noncomputable def impl_Queues_top_l0 (x : DQueues × Int × Unit) : Option ((DQueues × Int × Unit) ⊕ ((Unit) ⊕ (Int × Unit))) :=
  impl_Queues_top_l0K x.1 x.2.1 (fun y => some (.inl y)) (fun a => some (.inr (.inl a))) (fun b => some (.inr (.inr b)))
theorem impl_Queues_top_l0_eq {γ : Type} (q2 : DQueues) (prio3 : Int) (kn : DQueues × Int × Unit → Option γ) (kx : Unit → Option γ) (kr : Int × Unit → Option γ) : impl_Queues_top_l0K q2 prio3 kn kx kr = (impl_Queues_top_l0 (q2, prio3, ())).bind fun r => sum3K r kn kx kr := by
  simp only [impl_Queues_top_l0K, impl_Queues_top_l0, B0, B1, B2, B3, B4, B5, B6, B7, B8, C1, C2, C3, C4, C5]
noncomputable def impl_Queues_topK {γ : Type} (q1 : DQueues) (k : Int → Option γ) : Option γ :=
 (loopF impl_Queues_top_l0 ((q1.1, ()), (7 : Int), ())).bind fun q => endK q (fun z6 =>
  k (-1 : Int)) (fun z7 =>
  k z7.1)
noncomputable def impl_Queues_top (q1 : DQueues) : Option (Int) :=
  impl_Queues_topK q1 some
theorem impl_Queues_top_eq {γ : Type} (q1 : DQueues) (k : Int → Option γ) : impl_Queues_topK q1 k = (impl_Queues_top q1).bind k := by
  simp only [impl_Queues_topK, impl_Queues_top, B0, B1, B2, B3, B4, B5, B6, B7, B8, C1, C2, C3, C4, C5]

/-! (loop.example/capkernel/impl.Queues).next -/
noncomputable def impl_Queues_nextK {γ : Type} (q1 : DQueues) (k : Int → Option γ) : Option γ :=
 (impl_Queues_top (q1.1, ())).bind fun r2 =>
 bif decide (r2 < (0 : Int)) then
  k (-1 : Int)
 else
 nnK r2 fun i3 =>
 getK q1.1 i3 fun v4 =>
 getK v4 0 fun v5 =>
 k v5
noncomputable def impl_Queues_next (q1 : DQueues) : Option (Int) :=
  impl_Queues_nextK q1 some
theorem impl_Queues_next_eq {γ : Type} (q1 : DQueues) (k : Int → Option γ) : impl_Queues_nextK q1 k = (impl_Queues_next q1).bind k := by
  simp only [impl_Queues_nextK, impl_Queues_next, B0, B1, B2, B3, B4, B5, B6, B7, B8, C1, C2, C3, C4, C5]

/-! loop.example/capkernel/impl.ReadyNext -/
noncomputable def impl_ReadyNextK {γ : Type} (q1 : DQueues) (k : Int → Option γ) : Option γ :=
 (impl_QueuesValid (q1.1, ())).bind fun r2 =>
 bif (!r2) then
  k (-1 : Int)
 else
 (impl_Queues_next (q1.1, ())).bind fun r3 =>
 k r3
noncomputable def impl_ReadyNext (q1 : DQueues) : Option (Int) :=
  impl_ReadyNextK q1 some
theorem impl_ReadyNext_eq {γ : Type} (q1 : DQueues) (k : Int → Option γ) : impl_ReadyNextK q1 k = (impl_ReadyNext q1).bind k := by
  simp only [impl_ReadyNextK, impl_ReadyNext, B0, B1, B2, B3, B4, B5, B6, B7, B8, C1, C2, C3, C4, C5]

/-! loop.example/capkernel/laws.FnNewQueues -/
noncomputable def laws_FnNewQueuesK {γ : Type} (code1 : (List Int)) (k : Bool → Option γ) : Option γ :=
 bif decide ((code1.length : Int) > (1048576 : Int)) then
  k true
 else
 (impl_NewQueues).bind fun r2 =>
 (spec_NewQueues).bind fun r3 =>
 (laws_sameQueues (r2, ()) (r3, ())).bind fun r4 =>
 bif (!r4) then
  k false
 else
 (impl_ReadyAdd (r2, ()) (Int.tmod (code1.length : Int) (16 : Int)) (Int.tmod (Int.tmod (code1.length : Int) (16 : Int)) (8 : Int))).bind fun r5 =>
 (impl_QueuesValid (r2, ())).bind fun r6 =>
 bif r6 then
  (impl_ReadyNext (r2, ())).bind fun r7 =>
  bif (r7 == (-1 : Int)) then
   bif r5.1 then
    (impl_ReadyNext (r5.2, ())).bind fun r8 =>
    bif (r8 == (Int.tmod (code1.length : Int) (16 : Int))) then
     (impl_NewQueues).bind fun r9 =>
     (spec_NewQueues).bind fun r10 =>
     (laws_sameQueues (r9, ()) (r10, ())).bind fun r11 =>
     k r11
    else
    k false
   else
   k false
  else
  k false
 else
 k false
noncomputable def laws_FnNewQueues (code1 : (List Int)) : Option (Bool) :=
  laws_FnNewQueuesK code1 some
theorem laws_FnNewQueues_eq {γ : Type} (code1 : (List Int)) (k : Bool → Option γ) : laws_FnNewQueuesK code1 k = (laws_FnNewQueues code1).bind k := by
  simp only [laws_FnNewQueuesK, laws_FnNewQueues, B0, B1, B2, B3, B4, B5, B6, B7, B8, C1, C2, C3, C4, C5]

/-! loop.example/capkernel/laws.szIntS -/
noncomputable def laws_szIntSK {γ : Type} (a1 : (List Int)) (left2 : Int) (k : Int → Option γ) : Option γ :=
 bif decide ((IntKind.wrap .i64 (left2 - (a1.length : Int))) < (0 : Int)) then
  k (-1 : Int)
 else
 k (IntKind.wrap .i64 (left2 - (a1.length : Int)))
noncomputable def laws_szIntS (a1 : (List Int)) (left2 : Int) : Option (Int) :=
  laws_szIntSK a1 left2 some
theorem laws_szIntS_eq {γ : Type} (a1 : (List Int)) (left2 : Int) (k : Int → Option γ) : laws_szIntSK a1 left2 k = (laws_szIntS a1 left2).bind k := by
  simp only [laws_szIntSK, laws_szIntS, B0, B1, B2, B3, B4, B5, B6, B7, B8, C1, C2, C3, C4, C5]

/-! loop.example/capkernel/laws.szIntSS -/
noncomputable def laws_szIntSS_l0K {γ : Type} (a3 : (List (List Int))) (left4 : Int) (i5 : Int) (kn : (List (List Int)) × Int × Int × Unit → Option γ) (kx : Int × Unit → Option γ) (kr : Int × Unit → Option γ) : Option γ :=
 bif decide (i5 < (a3.length : Int)) then
  nnK i5 fun i6 =>
  getK a3 i6 fun v7 =>
  (laws_szIntS v7 left4).bind fun r8 =>
  bif decide (r8 < (0 : Int)) then
   kr ((-1 : Int), ())
  else
  kn (a3, r8, (IntKind.wrap .i64 (i5 + (1 : Int))), ())
 else
 kx (left4, ())
noncomputable def laws_szIntSS_l0 (x : (List (List Int)) × Int × Int × Unit) : Option (((List (List Int)) × Int × Int × Unit) ⊕ ((Int × Unit) ⊕ (Int × Unit))) :=
  laws_szIntSS_l0K x.1 x.2.1 x.2.2.1 (fun y => some (.inl y)) (fun a => some (.inr (.inl a))) (fun b => some (.inr (.inr b)))
theorem laws_szIntSS_l0_eq {γ : Type} (a3 : (List (List Int))) (left4 : Int) (i5 : Int) (kn : (List (List Int)) × Int × Int × Unit → Option γ) (kx : Int × Unit → Option γ) (kr : Int × Unit → Option γ) : laws_szIntSS_l0K a3 left4 i5 kn kx kr = (laws_szIntSS_l0 (a3, left4, i5, ())).bind fun r => sum3K r kn kx kr := by
  simp only [laws_szIntSS_l0K, laws_szIntSS_l0, B0, B1, B2, B3, B4, B5, B6, B7, B8, C1, C2, C3, C4, C5]
noncomputable def laws_szIntSSK {γ : Type} (a1 : (List (List Int))) (left2 : Int) (k : Int → Option γ) : Option γ :=
 bif decide ((IntKind.wrap .i64 (left2 - (a1.length : Int))) < (0 : Int)) then
  k (-1 : Int)
 else
 (loopF laws_szIntSS_l0 (a1, (IntKind.wrap .i64 (left2 - (a1.length : Int))), (0 : Int), ())).bind fun q => endK q (fun z9 =>
  k z9.1) (fun z10 =>
  k z10.1)
noncomputable def laws_szIntSS (a1 : (List (List Int))) (left2 : Int) : Option (Int) :=
  laws_szIntSSK a1 left2 some
theorem laws_szIntSS_eq {γ : Type} (a1 : (List (List Int))) (left2 : Int) (k : Int → Option γ) : laws_szIntSSK a1 left2 k = (laws_szIntSS a1 left2).bind k := by
  simp only [laws_szIntSSK, laws_szIntSS, B0, B1, B2, B3, B4, B5, B6, B7, B8, C1, C2, C3, C4, C5]

/-! loop.example/capkernel/laws.szQueues -/
noncomputable def laws_szQueuesK {γ : Type} (a1 : DQueues) (left2 : Int) (k : Int → Option γ) : Option γ :=
 (laws_szIntSS a1.1 left2).bind fun r3 =>
 bif decide (r3 < (0 : Int)) then
  k (-1 : Int)
 else
 k r3
noncomputable def laws_szQueues (a1 : DQueues) (left2 : Int) : Option (Int) :=
  laws_szQueuesK a1 left2 some
theorem laws_szQueues_eq {γ : Type} (a1 : DQueues) (left2 : Int) (k : Int → Option γ) : laws_szQueuesK a1 left2 k = (laws_szQueues a1 left2).bind k := by
  simp only [laws_szQueuesK, laws_szQueues, B0, B1, B2, B3, B4, B5, B6, B7, B8, C1, C2, C3, C4, C5]

/-! loop.example/capkernel/laws.toIntS -/
noncomputable def laws_toIntS_l0K {γ : Type} (a2 : (List Int)) (i3 : Int) (b4 : (List Int)) (kn : (List Int) × Int × (List Int) × Unit → Option γ) (kx : (List Int) × Unit → Option γ) : Option γ :=
 bif decide (i3 < (a2.length : Int)) then
  nnK i3 fun i5 =>
  getK a2 i5 fun v6 =>
  nnK i3 fun i7 =>
  chk (i7 < b4.length) <|
  getK b4 i7 fun y8 =>
  kn (a2, (IntKind.wrap .i64 (i3 + (1 : Int))), (b4.set i7 v6), ())
 else
 kx (b4, ())
noncomputable def laws_toIntS_l0 (x : (List Int) × Int × (List Int) × Unit) : Option (((List Int) × Int × (List Int) × Unit) ⊕ ((List Int) × Unit)) :=
  laws_toIntS_l0K x.1 x.2.1 x.2.2.1 (fun y => some (.inl y)) (fun a => some (.inr a))
theorem laws_toIntS_l0_eq {γ : Type} (a2 : (List Int)) (i3 : Int) (b4 : (List Int)) (kn : (List Int) × Int × (List Int) × Unit → Option γ) (kx : (List Int) × Unit → Option γ) : laws_toIntS_l0K a2 i3 b4 kn kx = (laws_toIntS_l0 (a2, i3, b4, ())).bind fun r => sum2K r kn kx := by
  simp only [laws_toIntS_l0K, laws_toIntS_l0, B0, B1, B2, B3, B4, B5, B6, B7, B8, C1, C2, C3, C4, C5]
noncomputable def laws_toIntSK {γ : Type} (a1 : (List Int)) (k : (List Int) → Option γ) : Option γ :=
 chk (a1.length ≤ bigRow) <|
 (loopF laws_toIntS_l0 (a1, (0 : Int), (List.replicate a1.length (0 : Int)), ())).bind fun z9 =>
 k z9.1
noncomputable def laws_toIntS (a1 : (List Int)) : Option ((List Int)) :=
  laws_toIntSK a1 some
theorem laws_toIntS_eq {γ : Type} (a1 : (List Int)) (k : (List Int) → Option γ) : laws_toIntSK a1 k = (laws_toIntS a1).bind k := by
  simp only [laws_toIntSK, laws_toIntS, B0, B1, B2, B3, B4, B5, B6, B7, B8, C1, C2, C3, C4, C5]

/-! loop.example/capkernel/laws.toIntSS -/
noncomputable def laws_toIntSS_l0K {γ : Type} (a2 : (List (List Int))) (i3 : Int) (b4 : (List (List Int))) (kn : (List (List Int)) × Int × (List (List Int)) × Unit → Option γ) (kx : (List (List Int)) × Unit → Option γ) : Option γ :=
 bif decide (i3 < (a2.length : Int)) then
  nnK i3 fun i5 =>
  getK a2 i5 fun v6 =>
  (laws_toIntS v6).bind fun r7 =>
  nnK i3 fun i8 =>
  chk (i8 < b4.length) <|
  chk (i8 < b4.length) <|
  kn (a2, (IntKind.wrap .i64 (i3 + (1 : Int))), (b4.set i8 r7), ())
 else
 kx (b4, ())
noncomputable def laws_toIntSS_l0 (x : (List (List Int)) × Int × (List (List Int)) × Unit) : Option (((List (List Int)) × Int × (List (List Int)) × Unit) ⊕ ((List (List Int)) × Unit)) :=
  laws_toIntSS_l0K x.1 x.2.1 x.2.2.1 (fun y => some (.inl y)) (fun a => some (.inr a))
theorem laws_toIntSS_l0_eq {γ : Type} (a2 : (List (List Int))) (i3 : Int) (b4 : (List (List Int))) (kn : (List (List Int)) × Int × (List (List Int)) × Unit → Option γ) (kx : (List (List Int)) × Unit → Option γ) : laws_toIntSS_l0K a2 i3 b4 kn kx = (laws_toIntSS_l0 (a2, i3, b4, ())).bind fun r => sum2K r kn kx := by
  simp only [laws_toIntSS_l0K, laws_toIntSS_l0, B0, B1, B2, B3, B4, B5, B6, B7, B8, C1, C2, C3, C4, C5]
noncomputable def laws_toIntSSK {γ : Type} (a1 : (List (List Int))) (k : (List (List Int)) → Option γ) : Option γ :=
 chk (a1.length ≤ bigRow) <|
 (loopF laws_toIntSS_l0 (a1, (0 : Int), (List.replicate a1.length []), ())).bind fun z9 =>
 k z9.1
noncomputable def laws_toIntSS (a1 : (List (List Int))) : Option ((List (List Int))) :=
  laws_toIntSSK a1 some
theorem laws_toIntSS_eq {γ : Type} (a1 : (List (List Int))) (k : (List (List Int)) → Option γ) : laws_toIntSSK a1 k = (laws_toIntSS a1).bind k := by
  simp only [laws_toIntSSK, laws_toIntSS, B0, B1, B2, B3, B4, B5, B6, B7, B8, C1, C2, C3, C4, C5]

/-! loop.example/capkernel/laws.toQueues -/
noncomputable def laws_toQueuesK {γ : Type} (a1 : DQueues) (k : (List (List Int)) → Option γ) : Option γ :=
 (laws_toIntSS a1.1).bind fun r2 =>
 k r2
noncomputable def laws_toQueues (a1 : DQueues) : Option ((List (List Int))) :=
  laws_toQueuesK a1 some
theorem laws_toQueues_eq {γ : Type} (a1 : DQueues) (k : (List (List Int)) → Option γ) : laws_toQueuesK a1 k = (laws_toQueues a1).bind k := by
  simp only [laws_toQueuesK, laws_toQueues, B0, B1, B2, B3, B4, B5, B6, B7, B8, C1, C2, C3, C4, C5]

/-! loop.example/capkernel/spec.l1In -/
noncomputable def spec_l1InK {γ : Type} (n1 : Int) (lo2 : Int) (hi3 : Int) (k : Bool → Option γ) : Option γ :=
 bif decide (n1 ≥ lo2) then
  k (decide (n1 ≤ hi3))
 else
 k false
noncomputable def spec_l1In (n1 : Int) (lo2 : Int) (hi3 : Int) : Option (Bool) :=
  spec_l1InK n1 lo2 hi3 some
theorem spec_l1In_eq {γ : Type} (n1 : Int) (lo2 : Int) (hi3 : Int) (k : Bool → Option γ) : spec_l1InK n1 lo2 hi3 k = (spec_l1In n1 lo2 hi3).bind k := by
  simp only [spec_l1InK, spec_l1In, B0, B1, B2, B3, B4, B5, B6, B7, B8, C1, C2, C3, C4, C5]

/-! loop.example/capkernel/spec.QueuesValid -/
noncomputable def spec_QueuesValid_l2K {γ : Type} (q5 : DQueues) (p6 : Int) (kq7 : Int) (b8 : (List Bool)) (kn : DQueues × Int × Int × (List Bool) × Unit → Option γ) (kx : DQueues × Int × (List Bool) × Unit → Option γ) (kr : Bool × Unit → Option γ) : Option γ :=
 nnK p6 fun i9 =>
 getK q5.1 i9 fun v10 =>
 bif decide (kq7 < (v10.length : Int)) then
  nnK p6 fun i11 =>
  getK q5.1 i11 fun v12 =>
  nnK kq7 fun i13 =>
  getK v12 i13 fun v14 =>
  (spec_l1In v14 (0 : Int) (15 : Int)).bind fun r15 =>
  bif (!(!r15)) then
   nnK v14 fun i16 =>
   chk (i16 < b8.length) <|
   getK b8 i16 fun v17 =>
   bif v17 then
    kr (false, ())
   else
   nnK v14 fun i18 =>
   chk (i18 < b8.length) <|
   getK b8 i18 fun y19 =>
   kn (q5, p6, (IntKind.wrap .i64 (kq7 + (1 : Int))), (b8.set i18 true), ())
  else
  kr (false, ())
 else
 kx (q5, p6, b8, ())
noncomputable def spec_QueuesValid_l2 (x : DQueues × Int × Int × (List Bool) × Unit) : Option ((DQueues × Int × Int × (List Bool) × Unit) ⊕ ((DQueues × Int × (List Bool) × Unit) ⊕ (Bool × Unit))) :=
  spec_QueuesValid_l2K x.1 x.2.1 x.2.2.1 x.2.2.2.1 (fun y => some (.inl y)) (fun a => some (.inr (.inl a))) (fun b => some (.inr (.inr b)))
theorem spec_QueuesValid_l2_eq {γ : Type} (q5 : DQueues) (p6 : Int) (kq7 : Int) (b8 : (List Bool)) (kn : DQueues × Int × Int × (List Bool) × Unit → Option γ) (kx : DQueues × Int × (List Bool) × Unit → Option γ) (kr : Bool × Unit → Option γ) : spec_QueuesValid_l2K q5 p6 kq7 b8 kn kx kr = (spec_QueuesValid_l2 (q5, p6, kq7, b8, ())).bind fun r => sum3K r kn kx kr := by
  simp only [spec_QueuesValid_l2K, spec_QueuesValid_l2, B0, B1, B2, B3, B4, B5, B6, B7, B8, C1, C2, C3, C4, C5]
noncomputable def spec_QueuesValid_l0K {γ : Type} (q2 : DQueues) (p3 : Int) (b4 : (List Bool)) (kn : DQueues × Int × (List Bool) × Unit → Option γ) (kx : DQueues × Unit → Option γ) (kr : Bool × Unit → Option γ) : Option γ :=
 bif decide (p3 < (q2.1.length : Int)) then
  (loopF spec_QueuesValid_l2 (q2, p3, (0 : Int), b4, ())).bind fun q => endK q (fun z20 =>
   kn (z20.1, (IntKind.wrap .i64 (z20.2.1 + (1 : Int))), z20.2.2.1, ())) (fun z21 =>
   kr (z21.1, ()))
 else
 kx (q2, ())
noncomputable def spec_QueuesValid_l0 (x : DQueues × Int × (List Bool) × Unit) : Option ((DQueues × Int × (List Bool) × Unit) ⊕ ((DQueues × Unit) ⊕ (Bool × Unit))) :=
  spec_QueuesValid_l0K x.1 x.2.1 x.2.2.1 (fun y => some (.inl y)) (fun a => some (.inr (.inl a))) (fun b => some (.inr (.inr b)))
theorem spec_QueuesValid_l0_eq {γ : Type} (q2 : DQueues) (p3 : Int) (b4 : (List Bool)) (kn : DQueues × Int × (List Bool) × Unit → Option γ) (kx : DQueues × Unit → Option γ) (kr : Bool × Unit → Option γ) : spec_QueuesValid_l0K q2 p3 b4 kn kx kr = (spec_QueuesValid_l0 (q2, p3, b4, ())).bind fun r => sum3K r kn kx kr := by
  simp only [spec_QueuesValid_l0K, spec_QueuesValid_l0, B0, B1, B2, B3, B4, B5, B6, B7, B8, C1, C2, C3, C4, C5]
noncomputable def spec_QueuesValidK {γ : Type} (q1 : DQueues) (k : Bool → Option γ) : Option γ :=
 (loopF spec_QueuesValid_l0 ((q1.1, ()), (0 : Int), (List.replicate 16 false), ())).bind fun q => endK q (fun z22 =>
  k ((z22.1.1.length : Int) == (8 : Int))) (fun z23 =>
  k z23.1)
noncomputable def spec_QueuesValid (q1 : DQueues) : Option (Bool) :=
  spec_QueuesValidK q1 some
theorem spec_QueuesValid_eq {γ : Type} (q1 : DQueues) (k : Bool → Option γ) : spec_QueuesValidK q1 k = (spec_QueuesValid q1).bind k := by
  simp only [spec_QueuesValidK, spec_QueuesValid, B0, B1, B2, B3, B4, B5, B6, B7, B8, C1, C2, C3, C4, C5]

/-! loop.example/capkernel/spec.l8Copy -/
noncomputable def spec_l8Copy_l0K {γ : Type} (q2 : DQueues) (p3 : Int) (b4 : (List (List Int))) (b5 : (List (List Int))) (kn : DQueues × Int × (List (List Int)) × (List (List Int)) × Unit → Option γ) (kx : (List (List Int)) × (List (List Int)) × Unit → Option γ) : Option γ :=
 bif decide (p3 < (q2.1.length : Int)) then
  nnK p3 fun i6 =>
  getK q2.1 i6 fun v7 =>
  chk (v7.length ≤ bigRow) <|
  chk ((b5.length + 1) ≤ bigRow) <|
  kn (q2, (IntKind.wrap .i64 (p3 + (1 : Int))), b4, (b5 ++ [v7]), ())
 else
 kx (b4, b5, ())
noncomputable def spec_l8Copy_l0 (x : DQueues × Int × (List (List Int)) × (List (List Int)) × Unit) : Option ((DQueues × Int × (List (List Int)) × (List (List Int)) × Unit) ⊕ ((List (List Int)) × (List (List Int)) × Unit)) :=
  spec_l8Copy_l0K x.1 x.2.1 x.2.2.1 x.2.2.2.1 (fun y => some (.inl y)) (fun a => some (.inr a))
theorem spec_l8Copy_l0_eq {γ : Type} (q2 : DQueues) (p3 : Int) (b4 : (List (List Int))) (b5 : (List (List Int))) (kn : DQueues × Int × (List (List Int)) × (List (List Int)) × Unit → Option γ) (kx : (List (List Int)) × (List (List Int)) × Unit → Option γ) : spec_l8Copy_l0K q2 p3 b4 b5 kn kx = (spec_l8Copy_l0 (q2, p3, b4, b5, ())).bind fun r => sum2K r kn kx := by
  simp only [spec_l8Copy_l0K, spec_l8Copy_l0, B0, B1, B2, B3, B4, B5, B6, B7, B8, C1, C2, C3, C4, C5]
noncomputable def spec_l8CopyK {γ : Type} (q1 : DQueues) (k : (List (List Int)) → Option γ) : Option γ :=
 (loopF spec_l8Copy_l0 ((q1.1, ()), (0 : Int), [], [], ())).bind fun z8 =>
 k z8.2.1
noncomputable def spec_l8Copy (q1 : DQueues) : Option ((List (List Int))) :=
  spec_l8CopyK q1 some
theorem spec_l8Copy_eq {γ : Type} (q1 : DQueues) (k : (List (List Int)) → Option γ) : spec_l8CopyK q1 k = (spec_l8Copy q1).bind k := by
  simp only [spec_l8CopyK, spec_l8Copy, B0, B1, B2, B3, B4, B5, B6, B7, B8, C1, C2, C3, C4, C5]

/-! loop.example/capkernel/spec.ReadyPrio -/
noncomputable def spec_ReadyPrio_l2K {γ : Type} (thread7 : Int) (q8 : DQueues) (p9 : Int) (kq10 : Int) (kn : Int × DQueues × Int × Int × Unit → Option γ) (kx : Int × DQueues × Int × Unit → Option γ) (kr : Int × Unit → Option γ) : Option γ :=
 nnK p9 fun i11 =>
 getK q8.1 i11 fun v12 =>
 bif decide (kq10 < (v12.length : Int)) then
  nnK p9 fun i13 =>
  getK q8.1 i13 fun v14 =>
  nnK kq10 fun i15 =>
  getK v14 i15 fun v16 =>
  bif (v16 == thread7) then
   kr (p9, ())
  else
  kn (thread7, q8, p9, (IntKind.wrap .i64 (kq10 + (1 : Int))), ())
 else
 kx (thread7, q8, p9, ())
noncomputable def spec_ReadyPrio_l2 (x : Int × DQueues × Int × Int × Unit) : Option ((Int × DQueues × Int × Int × Unit) ⊕ ((Int × DQueues × Int × Unit) ⊕ (Int × Unit))) :=
  spec_ReadyPrio_l2K x.1 x.2.1 x.2.2.1 x.2.2.2.1 (fun y => some (.inl y)) (fun a => some (.inr (.inl a))) (fun b => some (.inr (.inr b)))
theorem spec_ReadyPrio_l2_eq {γ : Type} (thread7 : Int) (q8 : DQueues) (p9 : Int) (kq10 : Int) (kn : Int × DQueues × Int × Int × Unit → Option γ) (kx : Int × DQueues × Int × Unit → Option γ) (kr : Int × Unit → Option γ) : spec_ReadyPrio_l2K thread7 q8 p9 kq10 kn kx kr = (spec_ReadyPrio_l2 (thread7, q8, p9, kq10, ())).bind fun r => sum3K r kn kx kr := by
  simp only [spec_ReadyPrio_l2K, spec_ReadyPrio_l2, B0, B1, B2, B3, B4, B5, B6, B7, B8, C1, C2, C3, C4, C5]
noncomputable def spec_ReadyPrio_l0K {γ : Type} (thread3 : Int) (q4 : DQueues) (p5 : Int) (kn : Int × DQueues × Int × Unit → Option γ) (kx : Unit → Option γ) (kr : Int × Unit → Option γ) : Option γ :=
 bif decide (p5 < (q4.1.length : Int)) then
  (spec_QueuesValid q4).bind fun r6 =>
  bif r6 then
   (loopF spec_ReadyPrio_l2 (thread3, q4, p5, (0 : Int), ())).bind fun q => endK q (fun z17 =>
    kn (z17.1, z17.2.1, (IntKind.wrap .i64 (z17.2.2.1 + (1 : Int))), ())) (fun z18 =>
    kr (z18.1, ()))
  else
  kx ()
 else
 kx ()
noncomputable def spec_ReadyPrio_l0 (x : Int × DQueues × Int × Unit) : Option ((Int × DQueues × Int × Unit) ⊕ ((Unit) ⊕ (Int × Unit))) :=
  spec_ReadyPrio_l0K x.1 x.2.1 x.2.2.1 (fun y => some (.inl y)) (fun a => some (.inr (.inl a))) (fun b => some (.inr (.inr b)))
theorem spec_ReadyPrio_l0_eq {γ : Type} (thread3 : Int) (q4 : DQueues) (p5 : Int) (kn : Int × DQueues × Int × Unit → Option γ) (kx : Unit → Option γ) (kr : Int × Unit → Option γ) : spec_ReadyPrio_l0K thread3 q4 p5 kn kx kr = (spec_ReadyPrio_l0 (thread3, q4, p5, ())).bind fun r => sum3K r kn kx kr := by
  simp only [spec_ReadyPrio_l0K, spec_ReadyPrio_l0, B0, B1, B2, B3, B4, B5, B6, B7, B8, C1, C2, C3, C4, C5]
noncomputable def spec_ReadyPrioK {γ : Type} (q1 : DQueues) (thread2 : Int) (k : Int → Option γ) : Option γ :=
 (loopF spec_ReadyPrio_l0 (thread2, (q1.1, ()), (0 : Int), ())).bind fun q => endK q (fun z19 =>
  k (-1 : Int)) (fun z20 =>
  k z20.1)
noncomputable def spec_ReadyPrio (q1 : DQueues) (thread2 : Int) : Option (Int) :=
  spec_ReadyPrioK q1 thread2 some
theorem spec_ReadyPrio_eq {γ : Type} (q1 : DQueues) (thread2 : Int) (k : Int → Option γ) : spec_ReadyPrioK q1 thread2 k = (spec_ReadyPrio q1 thread2).bind k := by
  simp only [spec_ReadyPrioK, spec_ReadyPrio, B0, B1, B2, B3, B4, B5, B6, B7, B8, C1, C2, C3, C4, C5]

/-! loop.example/capkernel/spec.ReadyAdd -/
noncomputable def spec_ReadyAddK {γ : Type} (q1 : DQueues) (thread2 : Int) (prio3 : Int) (k : Bool × (List (List Int)) → Option γ) : Option γ :=
 (spec_QueuesValid (q1.1, ())).bind fun r4 =>
 bif (!(!r4)) then
  (spec_l1In thread2 (0 : Int) (15 : Int)).bind fun r5 =>
  bif (!(!r5)) then
   (spec_l1In prio3 (0 : Int) (7 : Int)).bind fun r6 =>
   bif (!r6) then
    k (false, [])
   else
   (spec_l8Copy (q1.1, ())).bind fun r7 =>
   (spec_ReadyPrio (q1.1, ()) thread2).bind fun r8 =>
   bif decide (r8 ≥ (0 : Int)) then
    k (false, r7)
   else
   nnK prio3 fun i9 =>
   chk (i9 < r7.length) <|
   getK r7 i9 fun v10 =>
   chk ((v10.length + 1) ≤ bigRow) <|
   nnK prio3 fun i11 =>
   chk (i11 < r7.length) <|
   chk (i11 < r7.length) <|
   chk (i9 = i11) <|
   k (true, (r7.set i11 (v10 ++ [thread2])))
  else
  k (false, [])
 else
 k (false, [])
noncomputable def spec_ReadyAdd (q1 : DQueues) (thread2 : Int) (prio3 : Int) : Option (Bool × (List (List Int))) :=
  spec_ReadyAddK q1 thread2 prio3 some
theorem spec_ReadyAdd_eq {γ : Type} (q1 : DQueues) (thread2 : Int) (prio3 : Int) (k : Bool × (List (List Int)) → Option γ) : spec_ReadyAddK q1 thread2 prio3 k = (spec_ReadyAdd q1 thread2 prio3).bind k := by
  simp only [spec_ReadyAddK, spec_ReadyAdd, B0, B1, B2, B3, B4, B5, B6, B7, B8, C1, C2, C3, C4, C5]

/-! loop.example/capkernel/laws.eqIntS -/
noncomputable def laws_eqIntS_l0K {γ : Type} (a3 : (List Int)) (b4 : (List Int)) (i5 : Int) (kn : (List Int) × (List Int) × Int × Unit → Option γ) (kx : Unit → Option γ) (kr : Bool × Unit → Option γ) : Option γ :=
 bif decide (i5 < (a3.length : Int)) then
  nnK i5 fun i6 =>
  getK a3 i6 fun v7 =>
  nnK i5 fun i8 =>
  getK b4 i8 fun v9 =>
  bif (v7 != v9) then
   kr (false, ())
  else
  kn (a3, b4, (IntKind.wrap .i64 (i5 + (1 : Int))), ())
 else
 kx ()
noncomputable def laws_eqIntS_l0 (x : (List Int) × (List Int) × Int × Unit) : Option (((List Int) × (List Int) × Int × Unit) ⊕ ((Unit) ⊕ (Bool × Unit))) :=
  laws_eqIntS_l0K x.1 x.2.1 x.2.2.1 (fun y => some (.inl y)) (fun a => some (.inr (.inl a))) (fun b => some (.inr (.inr b)))
theorem laws_eqIntS_l0_eq {γ : Type} (a3 : (List Int)) (b4 : (List Int)) (i5 : Int) (kn : (List Int) × (List Int) × Int × Unit → Option γ) (kx : Unit → Option γ) (kr : Bool × Unit → Option γ) : laws_eqIntS_l0K a3 b4 i5 kn kx kr = (laws_eqIntS_l0 (a3, b4, i5, ())).bind fun r => sum3K r kn kx kr := by
  simp only [laws_eqIntS_l0K, laws_eqIntS_l0, B0, B1, B2, B3, B4, B5, B6, B7, B8, C1, C2, C3, C4, C5]
noncomputable def laws_eqIntSK {γ : Type} (a1 : (List Int)) (b2 : (List Int)) (k : Bool → Option γ) : Option γ :=
 bif ((a1.length : Int) != (b2.length : Int)) then
  k false
 else
 (loopF laws_eqIntS_l0 (a1, b2, (0 : Int), ())).bind fun q => endK q (fun z10 =>
  k true) (fun z11 =>
  k z11.1)
noncomputable def laws_eqIntS (a1 : (List Int)) (b2 : (List Int)) : Option (Bool) :=
  laws_eqIntSK a1 b2 some
theorem laws_eqIntS_eq {γ : Type} (a1 : (List Int)) (b2 : (List Int)) (k : Bool → Option γ) : laws_eqIntSK a1 b2 k = (laws_eqIntS a1 b2).bind k := by
  simp only [laws_eqIntSK, laws_eqIntS, B0, B1, B2, B3, B4, B5, B6, B7, B8, C1, C2, C3, C4, C5]

/-! loop.example/capkernel/laws.eqIntSS -/
noncomputable def laws_eqIntSS_l0K {γ : Type} (a3 : (List (List Int))) (b4 : (List (List Int))) (i5 : Int) (kn : (List (List Int)) × (List (List Int)) × Int × Unit → Option γ) (kx : Unit → Option γ) (kr : Bool × Unit → Option γ) : Option γ :=
 bif decide (i5 < (a3.length : Int)) then
  nnK i5 fun i6 =>
  getK a3 i6 fun v7 =>
  nnK i5 fun i8 =>
  getK b4 i8 fun v9 =>
  (laws_eqIntS v7 v9).bind fun r10 =>
  bif (!r10) then
   kr (false, ())
  else
  kn (a3, b4, (IntKind.wrap .i64 (i5 + (1 : Int))), ())
 else
 kx ()
noncomputable def laws_eqIntSS_l0 (x : (List (List Int)) × (List (List Int)) × Int × Unit) : Option (((List (List Int)) × (List (List Int)) × Int × Unit) ⊕ ((Unit) ⊕ (Bool × Unit))) :=
  laws_eqIntSS_l0K x.1 x.2.1 x.2.2.1 (fun y => some (.inl y)) (fun a => some (.inr (.inl a))) (fun b => some (.inr (.inr b)))
theorem laws_eqIntSS_l0_eq {γ : Type} (a3 : (List (List Int))) (b4 : (List (List Int))) (i5 : Int) (kn : (List (List Int)) × (List (List Int)) × Int × Unit → Option γ) (kx : Unit → Option γ) (kr : Bool × Unit → Option γ) : laws_eqIntSS_l0K a3 b4 i5 kn kx kr = (laws_eqIntSS_l0 (a3, b4, i5, ())).bind fun r => sum3K r kn kx kr := by
  simp only [laws_eqIntSS_l0K, laws_eqIntSS_l0, B0, B1, B2, B3, B4, B5, B6, B7, B8, C1, C2, C3, C4, C5]
noncomputable def laws_eqIntSSK {γ : Type} (a1 : (List (List Int))) (b2 : (List (List Int))) (k : Bool → Option γ) : Option γ :=
 bif ((a1.length : Int) != (b2.length : Int)) then
  k false
 else
 (loopF laws_eqIntSS_l0 (a1, b2, (0 : Int), ())).bind fun q => endK q (fun z11 =>
  k true) (fun z12 =>
  k z12.1)
noncomputable def laws_eqIntSS (a1 : (List (List Int))) (b2 : (List (List Int))) : Option (Bool) :=
  laws_eqIntSSK a1 b2 some
theorem laws_eqIntSS_eq {γ : Type} (a1 : (List (List Int))) (b2 : (List (List Int))) (k : Bool → Option γ) : laws_eqIntSSK a1 b2 k = (laws_eqIntSS a1 b2).bind k := by
  simp only [laws_eqIntSSK, laws_eqIntSS, B0, B1, B2, B3, B4, B5, B6, B7, B8, C1, C2, C3, C4, C5]

/-! loop.example/capkernel/laws.eqQueues -/
noncomputable def laws_eqQueuesK {γ : Type} (a1 : DQueues) (b2 : DQueues) (k : Bool → Option γ) : Option γ :=
 (laws_eqIntSS a1.1 b2.1).bind fun r3 =>
 bif (!r3) then
  k false
 else
 k true
noncomputable def laws_eqQueues (a1 : DQueues) (b2 : DQueues) : Option (Bool) :=
  laws_eqQueuesK a1 b2 some
theorem laws_eqQueues_eq {γ : Type} (a1 : DQueues) (b2 : DQueues) (k : Bool → Option γ) : laws_eqQueuesK a1 b2 k = (laws_eqQueues a1 b2).bind k := by
  simp only [laws_eqQueuesK, laws_eqQueues, B0, B1, B2, B3, B4, B5, B6, B7, B8, C1, C2, C3, C4, C5]

/-! loop.example/capkernel/laws.markIntS -/
noncomputable def laws_markIntS_l0K {γ : Type} (kq3 : Int) (i4 : Int) (b5 : (List Int)) (kn : Int × Int × (List Int) × Unit → Option γ) (kx : Int × (List Int) × Unit → Option γ) : Option γ :=
 bif decide (i4 < (b5.length : Int)) then
  nnK i4 fun i6 =>
  chk (i6 < b5.length) <|
  getK b5 i6 fun y7 =>
  kn ((IntKind.wrap .i64 (kq3 + (1 : Int))), (IntKind.wrap .i64 (i4 + (1 : Int))), (b5.set i6 kq3), ())
 else
 kx (kq3, b5, ())
noncomputable def laws_markIntS_l0 (x : Int × Int × (List Int) × Unit) : Option ((Int × Int × (List Int) × Unit) ⊕ (Int × (List Int) × Unit)) :=
  laws_markIntS_l0K x.1 x.2.1 x.2.2.1 (fun y => some (.inl y)) (fun a => some (.inr a))
theorem laws_markIntS_l0_eq {γ : Type} (kq3 : Int) (i4 : Int) (b5 : (List Int)) (kn : Int × Int × (List Int) × Unit → Option γ) (kx : Int × (List Int) × Unit → Option γ) : laws_markIntS_l0K kq3 i4 b5 kn kx = (laws_markIntS_l0 (kq3, i4, b5, ())).bind fun r => sum2K r kn kx := by
  simp only [laws_markIntS_l0K, laws_markIntS_l0, B0, B1, B2, B3, B4, B5, B6, B7, B8, C1, C2, C3, C4, C5]
noncomputable def laws_markIntSK {γ : Type} (kq1 : Int) (b2 : (List Int)) (k : Int × (List Int) → Option γ) : Option γ :=
 (loopF laws_markIntS_l0 (kq1, (0 : Int), b2, ())).bind fun z8 =>
 k (z8.1, z8.2.1)
noncomputable def laws_markIntS (kq1 : Int) (b2 : (List Int)) : Option (Int × (List Int)) :=
  laws_markIntSK kq1 b2 some
theorem laws_markIntS_eq {γ : Type} (kq1 : Int) (b2 : (List Int)) (k : Int × (List Int) → Option γ) : laws_markIntSK kq1 b2 k = (laws_markIntS kq1 b2).bind k := by
  simp only [laws_markIntSK, laws_markIntS, B0, B1, B2, B3, B4, B5, B6, B7, B8, C1, C2, C3, C4, C5]

/-! loop.example/capkernel/laws.markIntSS -/
noncomputable def laws_markIntSS_l0K {γ : Type} (kq5 : Int) (i6 : Int) (b7 : (List (List Int))) (b8 : (List (List Int))) (b9 : (List (List Int))) (kn : Int × Int × (List (List Int)) × (List (List Int)) × (List (List Int)) × Unit → Option γ) (kx : Int × (List (List Int)) × (List (List Int)) × (List (List Int)) × Unit → Option γ) : Option γ :=
 bif decide (i6 < (b8.length : Int)) then
  nnK i6 fun i10 =>
  chk (i10 < b8.length) <|
  getK b8 i10 fun v11 =>
  (laws_markIntS kq5 v11).bind fun r12 =>
  kn (r12.1, (IntKind.wrap .i64 (i6 + (1 : Int))), b7, (b8.set i10 r12.2), b9, ())
 else
 kx (kq5, b7, b8, b9, ())
noncomputable def laws_markIntSS_l0 (x : Int × Int × (List (List Int)) × (List (List Int)) × (List (List Int)) × Unit) : Option ((Int × Int × (List (List Int)) × (List (List Int)) × (List (List Int)) × Unit) ⊕ (Int × (List (List Int)) × (List (List Int)) × (List (List Int)) × Unit)) :=
  laws_markIntSS_l0K x.1 x.2.1 x.2.2.1 x.2.2.2.1 x.2.2.2.2.1 (fun y => some (.inl y)) (fun a => some (.inr a))
theorem laws_markIntSS_l0_eq {γ : Type} (kq5 : Int) (i6 : Int) (b7 : (List (List Int))) (b8 : (List (List Int))) (b9 : (List (List Int))) (kn : Int × Int × (List (List Int)) × (List (List Int)) × (List (List Int)) × Unit → Option γ) (kx : Int × (List (List Int)) × (List (List Int)) × (List (List Int)) × Unit → Option γ) : laws_markIntSS_l0K kq5 i6 b7 b8 b9 kn kx = (laws_markIntSS_l0 (kq5, i6, b7, b8, b9, ())).bind fun r => sum2K r kn kx := by
  simp only [laws_markIntSS_l0K, laws_markIntSS_l0, B0, B1, B2, B3, B4, B5, B6, B7, B8, C1, C2, C3, C4, C5]
noncomputable def laws_markIntSSK {γ : Type} (kq1 : Int) (b2 : (List (List Int))) (b3 : (List (List Int))) (b4 : (List (List Int))) (k : Int × (List (List Int)) × (List (List Int)) × (List (List Int)) → Option γ) : Option γ :=
 (loopF laws_markIntSS_l0 (kq1, (0 : Int), b2, b3, b4, ())).bind fun z13 =>
 k (z13.1, z13.2.1, z13.2.2.1, z13.2.2.2.1)
noncomputable def laws_markIntSS (kq1 : Int) (b2 : (List (List Int))) (b3 : (List (List Int))) (b4 : (List (List Int))) : Option (Int × (List (List Int)) × (List (List Int)) × (List (List Int))) :=
  laws_markIntSSK kq1 b2 b3 b4 some
theorem laws_markIntSS_eq {γ : Type} (kq1 : Int) (b2 : (List (List Int))) (b3 : (List (List Int))) (b4 : (List (List Int))) (k : Int × (List (List Int)) × (List (List Int)) × (List (List Int)) → Option γ) : laws_markIntSSK kq1 b2 b3 b4 k = (laws_markIntSS kq1 b2 b3 b4).bind k := by
  simp only [laws_markIntSSK, laws_markIntSS, B0, B1, B2, B3, B4, B5, B6, B7, B8, C1, C2, C3, C4, C5]

/-! loop.example/capkernel/laws.markQueues -/
noncomputable def laws_markQueuesK {γ : Type} (kq1 : Int) (b2 : (List (List Int))) (b3 : (List (List Int))) (b4 : (List (List Int))) (k : Int × (List (List Int)) × (List (List Int)) × (List (List Int)) → Option γ) : Option γ :=
 (laws_markIntSS kq1 b2 b3 b4).bind fun r5 =>
 k (r5.1, r5.2.1, r5.2.2.1, r5.2.2.2)
noncomputable def laws_markQueues (kq1 : Int) (b2 : (List (List Int))) (b3 : (List (List Int))) (b4 : (List (List Int))) : Option (Int × (List (List Int)) × (List (List Int)) × (List (List Int))) :=
  laws_markQueuesK kq1 b2 b3 b4 some
theorem laws_markQueues_eq {γ : Type} (kq1 : Int) (b2 : (List (List Int))) (b3 : (List (List Int))) (b4 : (List (List Int))) (k : Int × (List (List Int)) × (List (List Int)) × (List (List Int)) → Option γ) : laws_markQueuesK kq1 b2 b3 b4 k = (laws_markQueues kq1 b2 b3 b4).bind k := by
  simp only [laws_markQueuesK, laws_markQueues, B0, B1, B2, B3, B4, B5, B6, B7, B8, C1, C2, C3, C4, C5]

/-! loop.example/capkernel/laws.markIntSS -/
noncomputable def laws_markIntSS_v2_l0K {γ : Type} (kq5 : Int) (i6 : Int) (b7 : (List (List Int))) (b8 : (List (List Int))) (b9 : (List (List Int))) (kn : Int × Int × (List (List Int)) × (List (List Int)) × (List (List Int)) × Unit → Option γ) (kx : Int × (List (List Int)) × (List (List Int)) × (List (List Int)) × Unit → Option γ) : Option γ :=
 bif decide (i6 < (b8.length : Int)) then
  nnK i6 fun i10 =>
  chk (i10 < b8.length) <|
  getK b8 i10 fun v11 =>
  (laws_markIntS kq5 v11).bind fun r12 =>
  kn (r12.1, (IntKind.wrap .i64 (i6 + (1 : Int))), b7, (b8.set i10 r12.2), b9, ())
 else
 kx (kq5, b7, b8, b9, ())
noncomputable def laws_markIntSS_v2_l0 (x : Int × Int × (List (List Int)) × (List (List Int)) × (List (List Int)) × Unit) : Option ((Int × Int × (List (List Int)) × (List (List Int)) × (List (List Int)) × Unit) ⊕ (Int × (List (List Int)) × (List (List Int)) × (List (List Int)) × Unit)) :=
  laws_markIntSS_v2_l0K x.1 x.2.1 x.2.2.1 x.2.2.2.1 x.2.2.2.2.1 (fun y => some (.inl y)) (fun a => some (.inr a))
theorem laws_markIntSS_v2_l0_eq {γ : Type} (kq5 : Int) (i6 : Int) (b7 : (List (List Int))) (b8 : (List (List Int))) (b9 : (List (List Int))) (kn : Int × Int × (List (List Int)) × (List (List Int)) × (List (List Int)) × Unit → Option γ) (kx : Int × (List (List Int)) × (List (List Int)) × (List (List Int)) × Unit → Option γ) : laws_markIntSS_v2_l0K kq5 i6 b7 b8 b9 kn kx = (laws_markIntSS_v2_l0 (kq5, i6, b7, b8, b9, ())).bind fun r => sum2K r kn kx := by
  simp only [laws_markIntSS_v2_l0K, laws_markIntSS_v2_l0, B0, B1, B2, B3, B4, B5, B6, B7, B8, C1, C2, C3, C4, C5]
noncomputable def laws_markIntSS_v2K {γ : Type} (kq1 : Int) (b2 : (List (List Int))) (b3 : (List (List Int))) (b4 : (List (List Int))) (k : Int × (List (List Int)) × (List (List Int)) × (List (List Int)) → Option γ) : Option γ :=
 (loopF laws_markIntSS_v2_l0 (kq1, (0 : Int), b2, b3, b4, ())).bind fun z13 =>
 k (z13.1, z13.2.1, z13.2.2.1, z13.2.2.2.1)
noncomputable def laws_markIntSS_v2 (kq1 : Int) (b2 : (List (List Int))) (b3 : (List (List Int))) (b4 : (List (List Int))) : Option (Int × (List (List Int)) × (List (List Int)) × (List (List Int))) :=
  laws_markIntSS_v2K kq1 b2 b3 b4 some
theorem laws_markIntSS_v2_eq {γ : Type} (kq1 : Int) (b2 : (List (List Int))) (b3 : (List (List Int))) (b4 : (List (List Int))) (k : Int × (List (List Int)) × (List (List Int)) × (List (List Int)) → Option γ) : laws_markIntSS_v2K kq1 b2 b3 b4 k = (laws_markIntSS_v2 kq1 b2 b3 b4).bind k := by
  simp only [laws_markIntSS_v2K, laws_markIntSS_v2, B0, B1, B2, B3, B4, B5, B6, B7, B8, C1, C2, C3, C4, C5]

/-! loop.example/capkernel/laws.markQueues -/
noncomputable def laws_markQueues_v2K {γ : Type} (kq1 : Int) (b2 : (List (List Int))) (b3 : (List (List Int))) (b4 : (List (List Int))) (k : Int × (List (List Int)) × (List (List Int)) × (List (List Int)) → Option γ) : Option γ :=
 (laws_markIntSS_v2 kq1 b2 b3 b4).bind fun r5 =>
 k (r5.1, r5.2.1, r5.2.2.1, r5.2.2.2)
noncomputable def laws_markQueues_v2 (kq1 : Int) (b2 : (List (List Int))) (b3 : (List (List Int))) (b4 : (List (List Int))) : Option (Int × (List (List Int)) × (List (List Int)) × (List (List Int))) :=
  laws_markQueues_v2K kq1 b2 b3 b4 some
theorem laws_markQueues_v2_eq {γ : Type} (kq1 : Int) (b2 : (List (List Int))) (b3 : (List (List Int))) (b4 : (List (List Int))) (k : Int × (List (List Int)) × (List (List Int)) × (List (List Int)) → Option γ) : laws_markQueues_v2K kq1 b2 b3 b4 k = (laws_markQueues_v2 kq1 b2 b3 b4).bind k := by
  simp only [laws_markQueues_v2K, laws_markQueues_v2, B0, B1, B2, B3, B4, B5, B6, B7, B8, C1, C2, C3, C4, C5]

/-! loop.example/capkernel/laws.markIntSS -/
noncomputable def laws_markIntSS_v3_l0K {γ : Type} (kq5 : Int) (i6 : Int) (b7 : (List (List Int))) (b8 : (List (List Int))) (b9 : (List (List Int))) (kn : Int × Int × (List (List Int)) × (List (List Int)) × (List (List Int)) × Unit → Option γ) (kx : Int × (List (List Int)) × (List (List Int)) × (List (List Int)) × Unit → Option γ) : Option γ :=
 bif decide (i6 < (b9.length : Int)) then
  nnK i6 fun i10 =>
  chk (i10 < b9.length) <|
  getK b9 i10 fun v11 =>
  (laws_markIntS kq5 v11).bind fun r12 =>
  kn (r12.1, (IntKind.wrap .i64 (i6 + (1 : Int))), b7, b8, (b9.set i10 r12.2), ())
 else
 kx (kq5, b7, b8, b9, ())
noncomputable def laws_markIntSS_v3_l0 (x : Int × Int × (List (List Int)) × (List (List Int)) × (List (List Int)) × Unit) : Option ((Int × Int × (List (List Int)) × (List (List Int)) × (List (List Int)) × Unit) ⊕ (Int × (List (List Int)) × (List (List Int)) × (List (List Int)) × Unit)) :=
  laws_markIntSS_v3_l0K x.1 x.2.1 x.2.2.1 x.2.2.2.1 x.2.2.2.2.1 (fun y => some (.inl y)) (fun a => some (.inr a))
theorem laws_markIntSS_v3_l0_eq {γ : Type} (kq5 : Int) (i6 : Int) (b7 : (List (List Int))) (b8 : (List (List Int))) (b9 : (List (List Int))) (kn : Int × Int × (List (List Int)) × (List (List Int)) × (List (List Int)) × Unit → Option γ) (kx : Int × (List (List Int)) × (List (List Int)) × (List (List Int)) × Unit → Option γ) : laws_markIntSS_v3_l0K kq5 i6 b7 b8 b9 kn kx = (laws_markIntSS_v3_l0 (kq5, i6, b7, b8, b9, ())).bind fun r => sum2K r kn kx := by
  simp only [laws_markIntSS_v3_l0K, laws_markIntSS_v3_l0, B0, B1, B2, B3, B4, B5, B6, B7, B8, C1, C2, C3, C4, C5]
noncomputable def laws_markIntSS_v3K {γ : Type} (kq1 : Int) (b2 : (List (List Int))) (b3 : (List (List Int))) (b4 : (List (List Int))) (k : Int × (List (List Int)) × (List (List Int)) × (List (List Int)) → Option γ) : Option γ :=
 (loopF laws_markIntSS_v3_l0 (kq1, (0 : Int), b2, b3, b4, ())).bind fun z13 =>
 k (z13.1, z13.2.1, z13.2.2.1, z13.2.2.2.1)
noncomputable def laws_markIntSS_v3 (kq1 : Int) (b2 : (List (List Int))) (b3 : (List (List Int))) (b4 : (List (List Int))) : Option (Int × (List (List Int)) × (List (List Int)) × (List (List Int))) :=
  laws_markIntSS_v3K kq1 b2 b3 b4 some
theorem laws_markIntSS_v3_eq {γ : Type} (kq1 : Int) (b2 : (List (List Int))) (b3 : (List (List Int))) (b4 : (List (List Int))) (k : Int × (List (List Int)) × (List (List Int)) × (List (List Int)) → Option γ) : laws_markIntSS_v3K kq1 b2 b3 b4 k = (laws_markIntSS_v3 kq1 b2 b3 b4).bind k := by
  simp only [laws_markIntSS_v3K, laws_markIntSS_v3, B0, B1, B2, B3, B4, B5, B6, B7, B8, C1, C2, C3, C4, C5]

/-! loop.example/capkernel/laws.markQueues -/
noncomputable def laws_markQueues_v3K {γ : Type} (kq1 : Int) (b2 : (List (List Int))) (b3 : (List (List Int))) (b4 : (List (List Int))) (k : Int × (List (List Int)) × (List (List Int)) × (List (List Int)) → Option γ) : Option γ :=
 (laws_markIntSS_v3 kq1 b2 b3 b4).bind fun r5 =>
 k (r5.1, r5.2.1, r5.2.2.1, r5.2.2.2)
noncomputable def laws_markQueues_v3 (kq1 : Int) (b2 : (List (List Int))) (b3 : (List (List Int))) (b4 : (List (List Int))) : Option (Int × (List (List Int)) × (List (List Int)) × (List (List Int))) :=
  laws_markQueues_v3K kq1 b2 b3 b4 some
theorem laws_markQueues_v3_eq {γ : Type} (kq1 : Int) (b2 : (List (List Int))) (b3 : (List (List Int))) (b4 : (List (List Int))) (k : Int × (List (List Int)) × (List (List Int)) × (List (List Int)) → Option γ) : laws_markQueues_v3K kq1 b2 b3 b4 k = (laws_markQueues_v3 kq1 b2 b3 b4).bind k := by
  simp only [laws_markQueues_v3K, laws_markQueues_v3, B0, B1, B2, B3, B4, B5, B6, B7, B8, C1, C2, C3, C4, C5]

/-! loop.example/capkernel/laws.heldIntS -/
noncomputable def laws_heldIntS_l0K {γ : Type} (a3 : (List Int)) (kq4 : Int) (i5 : Int) (kn : (List Int) × Int × Int × Unit → Option γ) (kx : Int × Unit → Option γ) (kr : Int × Unit → Option γ) : Option γ :=
 bif decide (i5 < (a3.length : Int)) then
  nnK i5 fun i6 =>
  getK a3 i6 fun v7 =>
  bif (v7 != kq4) then
   kr ((-1 : Int), ())
  else
  kn (a3, (IntKind.wrap .i64 (kq4 + (1 : Int))), (IntKind.wrap .i64 (i5 + (1 : Int))), ())
 else
 kx (kq4, ())
noncomputable def laws_heldIntS_l0 (x : (List Int) × Int × Int × Unit) : Option (((List Int) × Int × Int × Unit) ⊕ ((Int × Unit) ⊕ (Int × Unit))) :=
  laws_heldIntS_l0K x.1 x.2.1 x.2.2.1 (fun y => some (.inl y)) (fun a => some (.inr (.inl a))) (fun b => some (.inr (.inr b)))
theorem laws_heldIntS_l0_eq {γ : Type} (a3 : (List Int)) (kq4 : Int) (i5 : Int) (kn : (List Int) × Int × Int × Unit → Option γ) (kx : Int × Unit → Option γ) (kr : Int × Unit → Option γ) : laws_heldIntS_l0K a3 kq4 i5 kn kx kr = (laws_heldIntS_l0 (a3, kq4, i5, ())).bind fun r => sum3K r kn kx kr := by
  simp only [laws_heldIntS_l0K, laws_heldIntS_l0, B0, B1, B2, B3, B4, B5, B6, B7, B8, C1, C2, C3, C4, C5]
noncomputable def laws_heldIntSK {γ : Type} (a1 : (List Int)) (kq2 : Int) (k : Int → Option γ) : Option γ :=
 (loopF laws_heldIntS_l0 (a1, kq2, (0 : Int), ())).bind fun q => endK q (fun z8 =>
  k z8.1) (fun z9 =>
  k z9.1)
noncomputable def laws_heldIntS (a1 : (List Int)) (kq2 : Int) : Option (Int) :=
  laws_heldIntSK a1 kq2 some
theorem laws_heldIntS_eq {γ : Type} (a1 : (List Int)) (kq2 : Int) (k : Int → Option γ) : laws_heldIntSK a1 kq2 k = (laws_heldIntS a1 kq2).bind k := by
  simp only [laws_heldIntSK, laws_heldIntS, B0, B1, B2, B3, B4, B5, B6, B7, B8, C1, C2, C3, C4, C5]

/-! loop.example/capkernel/laws.heldIntSS -/
noncomputable def laws_heldIntSS_l0K {γ : Type} (a3 : (List (List Int))) (kq4 : Int) (i5 : Int) (kn : (List (List Int)) × Int × Int × Unit → Option γ) (kx : Int × Unit → Option γ) (kr : Int × Unit → Option γ) : Option γ :=
 bif decide (i5 < (a3.length : Int)) then
  nnK i5 fun i6 =>
  getK a3 i6 fun v7 =>
  (laws_heldIntS v7 kq4).bind fun r8 =>
  bif decide (r8 < (0 : Int)) then
   kr ((-1 : Int), ())
  else
  kn (a3, r8, (IntKind.wrap .i64 (i5 + (1 : Int))), ())
 else
 kx (kq4, ())
noncomputable def laws_heldIntSS_l0 (x : (List (List Int)) × Int × Int × Unit) : Option (((List (List Int)) × Int × Int × Unit) ⊕ ((Int × Unit) ⊕ (Int × Unit))) :=
  laws_heldIntSS_l0K x.1 x.2.1 x.2.2.1 (fun y => some (.inl y)) (fun a => some (.inr (.inl a))) (fun b => some (.inr (.inr b)))
theorem laws_heldIntSS_l0_eq {γ : Type} (a3 : (List (List Int))) (kq4 : Int) (i5 : Int) (kn : (List (List Int)) × Int × Int × Unit → Option γ) (kx : Int × Unit → Option γ) (kr : Int × Unit → Option γ) : laws_heldIntSS_l0K a3 kq4 i5 kn kx kr = (laws_heldIntSS_l0 (a3, kq4, i5, ())).bind fun r => sum3K r kn kx kr := by
  simp only [laws_heldIntSS_l0K, laws_heldIntSS_l0, B0, B1, B2, B3, B4, B5, B6, B7, B8, C1, C2, C3, C4, C5]
noncomputable def laws_heldIntSSK {γ : Type} (a1 : (List (List Int))) (kq2 : Int) (k : Int → Option γ) : Option γ :=
 (loopF laws_heldIntSS_l0 (a1, kq2, (0 : Int), ())).bind fun q => endK q (fun z9 =>
  k z9.1) (fun z10 =>
  k z10.1)
noncomputable def laws_heldIntSS (a1 : (List (List Int))) (kq2 : Int) : Option (Int) :=
  laws_heldIntSSK a1 kq2 some
theorem laws_heldIntSS_eq {γ : Type} (a1 : (List (List Int))) (kq2 : Int) (k : Int → Option γ) : laws_heldIntSSK a1 kq2 k = (laws_heldIntSS a1 kq2).bind k := by
  simp only [laws_heldIntSSK, laws_heldIntSS, B0, B1, B2, B3, B4, B5, B6, B7, B8, C1, C2, C3, C4, C5]

/-! loop.example/capkernel/laws.heldQueues -/
noncomputable def laws_heldQueuesK {γ : Type} (a1 : DQueues) (kq2 : Int) (k : Int → Option γ) : Option γ :=
 (laws_heldIntSS a1.1 kq2).bind fun r3 =>
 bif decide (r3 < (0 : Int)) then
  k (-1 : Int)
 else
 k r3
noncomputable def laws_heldQueues (a1 : DQueues) (kq2 : Int) : Option (Int) :=
  laws_heldQueuesK a1 kq2 some
theorem laws_heldQueues_eq {γ : Type} (a1 : DQueues) (kq2 : Int) (k : Int → Option γ) : laws_heldQueuesK a1 kq2 k = (laws_heldQueues a1 kq2).bind k := by
  simp only [laws_heldQueuesK, laws_heldQueues, B0, B1, B2, B3, B4, B5, B6, B7, B8, C1, C2, C3, C4, C5]

/-! loop.example/capkernel/laws.FnExactReadyAdd -/
noncomputable def laws_FnExactReadyAddK {γ : Type} (aQ1 : DQueues) (aThread2 : Int) (aPrio3 : Int) (k : Bool → Option γ) : Option γ :=
 (laws_szQueues (aQ1.1, ()) (1048576 : Int)).bind fun r4 =>
 bif decide (r4 < (0 : Int)) then
  k true
 else
 (laws_toQueues (aQ1.1, ())).bind fun r5 =>
 (spec_ReadyAdd (r5, ()) aThread2 aPrio3).bind fun r6 =>
 (laws_toQueues (aQ1.1, ())).bind fun r7 =>
 (impl_ReadyAdd (r7, ()) aThread2 aPrio3).bind fun r8 =>
 (laws_eqQueues (r8.2, ()) (r6.2, ())).bind fun r9 =>
 bif (!(!r9)) then
  bif (!(r8.1 == r6.1)) then
   k false
  else
  (laws_toQueues (aQ1.1, ())).bind fun r10 =>
  (laws_eqQueues (r7, ()) (r10, ())).bind fun r11 =>
  bif (!r11) then
   k false
  else
  (laws_markQueues_v2 (1 : Int) r6.2 r7 r8.2).bind fun r12 =>
  bif (!decide (r12.1 < (0 : Int))) then
   (laws_eqQueues (r12.2.2.2, ()) (r12.2.1, ())).bind fun r13 =>
   bif (!(!r13)) then
    bif (!(r8.1 == r6.1)) then
     k false
    else
    (laws_markQueues_v3 (1 : Int) r12.2.1 r12.2.2.1 r12.2.2.2).bind fun r14 =>
    (laws_heldQueues (r14.2.2.2, ()) (1 : Int)).bind fun r15 =>
    bif decide (r15 < (0 : Int)) then
     k false
    else
    bif (r15 != r14.1) then
     k false
    else
    (laws_toQueues (aQ1.1, ())).bind fun r16 =>
    (impl_ReadyAdd (r16, ()) aThread2 aPrio3).bind fun r17 =>
    (laws_eqQueues (r17.2, ()) (r14.2.1, ())).bind fun r18 =>
    bif (!(!r18)) then
     bif (!(r17.1 == r6.1)) then
      k false
     else
     (laws_heldQueues (r14.2.2.2, ()) (1 : Int)).bind fun r19 =>
     bif decide (r19 < (0 : Int)) then
      k false
     else
     bif (r19 != r14.1) then
      k false
     else
     k true
    else
    k false
   else
   k false
  else
  k false
 else
 k false
noncomputable def laws_FnExactReadyAdd (aQ1 : DQueues) (aThread2 : Int) (aPrio3 : Int) : Option (Bool) :=
  laws_FnExactReadyAddK aQ1 aThread2 aPrio3 some
theorem laws_FnExactReadyAdd_eq {γ : Type} (aQ1 : DQueues) (aThread2 : Int) (aPrio3 : Int) (k : Bool → Option γ) : laws_FnExactReadyAddK aQ1 aThread2 aPrio3 k = (laws_FnExactReadyAdd aQ1 aThread2 aPrio3).bind k := by
  simp only [laws_FnExactReadyAddK, laws_FnExactReadyAdd, B0, B1, B2, B3, B4, B5, B6, B7, B8, C1, C2, C3, C4, C5]

/-! loop.example/capkernel/spec.ReadyNext -/
noncomputable def spec_ReadyNext_l0K {γ : Type} (q2 : DQueues) (p3 : Int) (kn : DQueues × Int × Unit → Option γ) (kx : Unit → Option γ) (kr : Int × Unit → Option γ) : Option γ :=
 bif decide (p3 ≥ (0 : Int)) then
  (spec_QueuesValid q2).bind fun r4 =>
  bif r4 then
   nnK p3 fun i5 =>
   getK q2.1 i5 fun v6 =>
   bif decide ((v6.length : Int) > (0 : Int)) then
    nnK p3 fun i7 =>
    getK q2.1 i7 fun v8 =>
    getK v8 0 fun v9 =>
    kr (v9, ())
   else
   kn (q2, (IntKind.wrap .i64 (p3 - (1 : Int))), ())
  else
  kx ()
 else
 kx ()
noncomputable def spec_ReadyNext_l0 (x : DQueues × Int × Unit) : Option ((DQueues × Int × Unit) ⊕ ((Unit) ⊕ (Int × Unit))) :=
  spec_ReadyNext_l0K x.1 x.2.1 (fun y => some (.inl y)) (fun a => some (.inr (.inl a))) (fun b => some (.inr (.inr b)))
theorem spec_ReadyNext_l0_eq {γ : Type} (q2 : DQueues) (p3 : Int) (kn : DQueues × Int × Unit → Option γ) (kx : Unit → Option γ) (kr : Int × Unit → Option γ) : spec_ReadyNext_l0K q2 p3 kn kx kr = (spec_ReadyNext_l0 (q2, p3, ())).bind fun r => sum3K r kn kx kr := by
  simp only [spec_ReadyNext_l0K, spec_ReadyNext_l0, B0, B1, B2, B3, B4, B5, B6, B7, B8, C1, C2, C3, C4, C5]
noncomputable def spec_ReadyNextK {γ : Type} (q1 : DQueues) (k : Int → Option γ) : Option γ :=
 (loopF spec_ReadyNext_l0 ((q1.1, ()), (IntKind.wrap .i64 ((q1.1.length : Int) - (1 : Int))), ())).bind fun q => endK q (fun z10 =>
  k (-1 : Int)) (fun z11 =>
  k z11.1)
noncomputable def spec_ReadyNext (q1 : DQueues) : Option (Int) :=
  spec_ReadyNextK q1 some
theorem spec_ReadyNext_eq {γ : Type} (q1 : DQueues) (k : Int → Option γ) : spec_ReadyNextK q1 k = (spec_ReadyNext q1).bind k := by
  simp only [spec_ReadyNextK, spec_ReadyNext, B0, B1, B2, B3, B4, B5, B6, B7, B8, C1, C2, C3, C4, C5]

/-! loop.example/capkernel/spec.ReadyTurn -/
noncomputable def spec_ReadyTurnK {γ : Type} (q1 : DQueues) (k : (List (List Int)) → Option γ) : Option γ :=
 (spec_QueuesValid (q1.1, ())).bind fun r2 =>
 bif (!r2) then
  k []
 else
 (spec_l8Copy (q1.1, ())).bind fun r3 =>
 (spec_ReadyNext (q1.1, ())).bind fun r4 =>
 bif decide (r4 ≥ (0 : Int)) then
  (spec_ReadyPrio (q1.1, ()) r4).bind fun r5 =>
  nnK r5 fun i6 =>
  getK q1.1 i6 fun v7 =>
  chk (1 ≤ v7.length) <|
  chk ((v7.drop 1).length ≤ bigRow) <|
  chk (((v7.drop 1).length + 1) ≤ bigRow) <|
  nnK r5 fun i8 =>
  chk (i8 < r3.length) <|
  chk (i8 < r3.length) <|
  k (r3.set i8 ((v7.drop 1) ++ [r4]))
 else
 k r3
noncomputable def spec_ReadyTurn (q1 : DQueues) : Option ((List (List Int))) :=
  spec_ReadyTurnK q1 some
theorem spec_ReadyTurn_eq {γ : Type} (q1 : DQueues) (k : (List (List Int)) → Option γ) : spec_ReadyTurnK q1 k = (spec_ReadyTurn q1).bind k := by
  simp only [spec_ReadyTurnK, spec_ReadyTurn, B0, B1, B2, B3, B4, B5, B6, B7, B8, C1, C2, C3, C4, C5]

/-! (loop.example/capkernel/impl.Queues).turn -/
noncomputable def impl_Queues_turnK {γ : Type} (b1 : (List (List Int))) (k : (List (List Int)) → Option γ) : Option γ :=
 (impl_Queues_top (b1, ())).bind fun r2 =>
 bif decide (r2 ≥ (0 : Int)) then
  nnK r2 fun i3 =>
  chk (i3 < b1.length) <|
  getK b1 i3 fun v4 =>
  chk (1 ≤ v4.length) <|
  chk (0 < v4.length) <|
  getK v4 0 fun v5 =>
  (impl_clone_int ((v4.drop 1).take (v4.length - 1))).bind fun r6 =>
  chk ((r6.length + 1) ≤ bigRow) <|
  (impl_clone_int (r6 ++ [v5])).bind fun r7 =>
  nnK r2 fun i8 =>
  chk (i8 < b1.length) <|
  chk (i8 < b1.length) <|
  chk (i3 = i8) <|
  k (b1.set i8 r7)
 else
 k b1
noncomputable def impl_Queues_turn (b1 : (List (List Int))) : Option ((List (List Int))) :=
  impl_Queues_turnK b1 some
theorem impl_Queues_turn_eq {γ : Type} (b1 : (List (List Int))) (k : (List (List Int)) → Option γ) : impl_Queues_turnK b1 k = (impl_Queues_turn b1).bind k := by
  simp only [impl_Queues_turnK, impl_Queues_turn, B0, B1, B2, B3, B4, B5, B6, B7, B8, C1, C2, C3, C4, C5]

/-! loop.example/capkernel/impl.ReadyTurn -/
noncomputable def impl_ReadyTurnK {γ : Type} (q1 : DQueues) (k : (List (List Int)) → Option γ) : Option γ :=
 (impl_QueuesValid (q1.1, ())).bind fun r2 =>
 bif (!r2) then
  k []
 else
 (impl_Queues_copyOf (q1.1, ())).bind fun r3 =>
 (impl_Queues_turn r3).bind fun r4 =>
 k r4
noncomputable def impl_ReadyTurn (q1 : DQueues) : Option ((List (List Int))) :=
  impl_ReadyTurnK q1 some
theorem impl_ReadyTurn_eq {γ : Type} (q1 : DQueues) (k : (List (List Int)) → Option γ) : impl_ReadyTurnK q1 k = (impl_ReadyTurn q1).bind k := by
  simp only [impl_ReadyTurnK, impl_ReadyTurn, B0, B1, B2, B3, B4, B5, B6, B7, B8, C1, C2, C3, C4, C5]

/-! loop.example/capkernel/laws.FnExactReadyTurn -/
noncomputable def laws_FnExactReadyTurnK {γ : Type} (aQ1 : DQueues) (k : Bool → Option γ) : Option γ :=
 (laws_szQueues (aQ1.1, ()) (1048576 : Int)).bind fun r2 =>
 bif decide (r2 < (0 : Int)) then
  k true
 else
 (laws_toQueues (aQ1.1, ())).bind fun r3 =>
 (spec_ReadyTurn (r3, ())).bind fun r4 =>
 (laws_toQueues (aQ1.1, ())).bind fun r5 =>
 (impl_ReadyTurn (r5, ())).bind fun r6 =>
 (laws_eqQueues (r6, ()) (r4, ())).bind fun r7 =>
 bif (!r7) then
  k false
 else
 (laws_toQueues (aQ1.1, ())).bind fun r8 =>
 (laws_eqQueues (r5, ()) (r8, ())).bind fun r9 =>
 bif (!r9) then
  k false
 else
 (laws_markQueues_v2 (1 : Int) r4 r5 r6).bind fun r10 =>
 bif (!decide (r10.1 < (0 : Int))) then
  (laws_eqQueues (r10.2.2.2, ()) (r10.2.1, ())).bind fun r11 =>
  bif (!r11) then
   k false
  else
  (laws_markQueues_v3 (1 : Int) r10.2.1 r10.2.2.1 r10.2.2.2).bind fun r12 =>
  (laws_heldQueues (r12.2.2.2, ()) (1 : Int)).bind fun r13 =>
  bif decide (r13 < (0 : Int)) then
   k false
  else
  bif (r13 != r12.1) then
   k false
  else
  (laws_toQueues (aQ1.1, ())).bind fun r14 =>
  (impl_ReadyTurn (r14, ())).bind fun r15 =>
  (laws_eqQueues (r15, ()) (r12.2.1, ())).bind fun r16 =>
  bif (!r16) then
   k false
  else
  (laws_heldQueues (r12.2.2.2, ()) (1 : Int)).bind fun r17 =>
  bif decide (r17 < (0 : Int)) then
   k false
  else
  bif (r17 != r12.1) then
   k false
  else
  k true
 else
 k false
noncomputable def laws_FnExactReadyTurn (aQ1 : DQueues) : Option (Bool) :=
  laws_FnExactReadyTurnK aQ1 some
theorem laws_FnExactReadyTurn_eq {γ : Type} (aQ1 : DQueues) (k : Bool → Option γ) : laws_FnExactReadyTurnK aQ1 k = (laws_FnExactReadyTurn aQ1).bind k := by
  simp only [laws_FnExactReadyTurnK, laws_FnExactReadyTurn, B0, B1, B2, B3, B4, B5, B6, B7, B8, C1, C2, C3, C4, C5]

/-! loop.example/capkernel/spec.RunTurns -/
noncomputable def spec_RunTurns_l0K {γ : Type} (turns5 : Int) (kq6 : Int) (b7 : DQueues) (b8 : (List Int)) (kn : Int × Int × DQueues × (List Int) × Unit → Option γ) (kx : (List Int) × Unit → Option γ) : Option γ :=
 bif decide (kq6 < turns5) then
  (spec_ReadyNext b7).bind fun r9 =>
  chk ((b8.length + 1) ≤ bigRow) <|
  (spec_ReadyTurn b7).bind fun r10 =>
  kn (turns5, (IntKind.wrap .i64 (kq6 + (1 : Int))), (r10, ()), (b8 ++ [r9]), ())
 else
 kx (b8, ())
noncomputable def spec_RunTurns_l0 (x : Int × Int × DQueues × (List Int) × Unit) : Option ((Int × Int × DQueues × (List Int) × Unit) ⊕ ((List Int) × Unit)) :=
  spec_RunTurns_l0K x.1 x.2.1 x.2.2.1 x.2.2.2.1 (fun y => some (.inl y)) (fun a => some (.inr a))
theorem spec_RunTurns_l0_eq {γ : Type} (turns5 : Int) (kq6 : Int) (b7 : DQueues) (b8 : (List Int)) (kn : Int × Int × DQueues × (List Int) × Unit → Option γ) (kx : (List Int) × Unit → Option γ) : spec_RunTurns_l0K turns5 kq6 b7 b8 kn kx = (spec_RunTurns_l0 (turns5, kq6, b7, b8, ())).bind fun r => sum2K r kn kx := by
  simp only [spec_RunTurns_l0K, spec_RunTurns_l0, B0, B1, B2, B3, B4, B5, B6, B7, B8, C1, C2, C3, C4, C5]
noncomputable def spec_RunTurnsK {γ : Type} (q1 : DQueues) (turns2 : Int) (k : (List Int) → Option γ) : Option γ :=
 (spec_QueuesValid (q1.1, ())).bind fun r3 =>
 bif (!(!r3)) then
  (spec_l1In turns2 (0 : Int) (200 : Int)).bind fun r4 =>
  bif (!r4) then
   k []
  else
  (loopF spec_RunTurns_l0 (turns2, (0 : Int), (q1.1, ()), [], ())).bind fun z11 =>
  k z11.1
 else
 k []
noncomputable def spec_RunTurns (q1 : DQueues) (turns2 : Int) : Option ((List Int)) :=
  spec_RunTurnsK q1 turns2 some
theorem spec_RunTurns_eq {γ : Type} (q1 : DQueues) (turns2 : Int) (k : (List Int) → Option γ) : spec_RunTurnsK q1 turns2 k = (spec_RunTurns q1 turns2).bind k := by
  simp only [spec_RunTurnsK, spec_RunTurns, B0, B1, B2, B3, B4, B5, B6, B7, B8, C1, C2, C3, C4, C5]

/-! loop.example/capkernel/impl.turned -/
noncomputable def impl_turnedK {γ : Type} (q1 : DQueues) (turns2 : Int) (k : Bool → Option γ) : Option γ :=
 (impl_QueuesValid (q1.1, ())).bind fun r3 =>
 bif r3 then
  (impl_in turns2 (0 : Int) (200 : Int)).bind fun r4 =>
  k r4
 else
 k false
noncomputable def impl_turned (q1 : DQueues) (turns2 : Int) : Option (Bool) :=
  impl_turnedK q1 turns2 some
theorem impl_turned_eq {γ : Type} (q1 : DQueues) (turns2 : Int) (k : Bool → Option γ) : impl_turnedK q1 turns2 k = (impl_turned q1 turns2).bind k := by
  simp only [impl_turnedK, impl_turned, B0, B1, B2, B3, B4, B5, B6, B7, B8, C1, C2, C3, C4, C5]

/-! (loop.example/capkernel/impl.Queues).turn -/
noncomputable def impl_Queues_turn_v2K {γ : Type} (b1 : (List Int)) (b2 : (List (List Int))) (k : (List Int) × (List (List Int)) → Option γ) : Option γ :=
 (impl_Queues_top (b2, ())).bind fun r3 =>
 bif decide (r3 ≥ (0 : Int)) then
  nnK r3 fun i4 =>
  chk (i4 < b2.length) <|
  getK b2 i4 fun v5 =>
  chk (1 ≤ v5.length) <|
  chk (0 < v5.length) <|
  getK v5 0 fun v6 =>
  (impl_clone_int ((v5.drop 1).take (v5.length - 1))).bind fun r7 =>
  chk ((r7.length + 1) ≤ bigRow) <|
  (impl_clone_int (r7 ++ [v6])).bind fun r8 =>
  nnK r3 fun i9 =>
  chk (i9 < b2.length) <|
  chk (i9 < b2.length) <|
  chk (i4 = i9) <|
  k (b1, (b2.set i9 r8))
 else
 k (b1, b2)
noncomputable def impl_Queues_turn_v2 (b1 : (List Int)) (b2 : (List (List Int))) : Option ((List Int) × (List (List Int))) :=
  impl_Queues_turn_v2K b1 b2 some
theorem impl_Queues_turn_v2_eq {γ : Type} (b1 : (List Int)) (b2 : (List (List Int))) (k : (List Int) × (List (List Int)) → Option γ) : impl_Queues_turn_v2K b1 b2 k = (impl_Queues_turn_v2 b1 b2).bind k := by
  simp only [impl_Queues_turn_v2K, impl_Queues_turn_v2, B0, B1, B2, B3, B4, B5, B6, B7, B8, C1, C2, C3, C4, C5]

/-! loop.example/capkernel/impl.RunTurns -/
noncomputable def impl_RunTurns_l0K {γ : Type} (a6 : Int) (a7 : Int) (b8 : (List Int)) (b9 : (List (List Int))) (kn : Int × Int × (List Int) × (List (List Int)) × Unit → Option γ) (kx : (List Int) × Unit → Option γ) : Option γ :=
 bif decide (a7 < a6) then
  (impl_Queues_next (b9, ())).bind fun r10 =>
  nnK a7 fun i11 =>
  chk (i11 < b8.length) <|
  getK b8 i11 fun y12 =>
  (impl_Queues_turn_v2 (b8.set i11 r10) b9).bind fun r13 =>
  kn (a6, (IntKind.wrap .i64 (a7 + (1 : Int))), r13.1, r13.2, ())
 else
 kx (b8, ())
noncomputable def impl_RunTurns_l0 (x : Int × Int × (List Int) × (List (List Int)) × Unit) : Option ((Int × Int × (List Int) × (List (List Int)) × Unit) ⊕ ((List Int) × Unit)) :=
  impl_RunTurns_l0K x.1 x.2.1 x.2.2.1 x.2.2.2.1 (fun y => some (.inl y)) (fun a => some (.inr a))
theorem impl_RunTurns_l0_eq {γ : Type} (a6 : Int) (a7 : Int) (b8 : (List Int)) (b9 : (List (List Int))) (kn : Int × Int × (List Int) × (List (List Int)) × Unit → Option γ) (kx : (List Int) × Unit → Option γ) : impl_RunTurns_l0K a6 a7 b8 b9 kn kx = (impl_RunTurns_l0 (a6, a7, b8, b9, ())).bind fun r => sum2K r kn kx := by
  simp only [impl_RunTurns_l0K, impl_RunTurns_l0, B0, B1, B2, B3, B4, B5, B6, B7, B8, C1, C2, C3, C4, C5]
noncomputable def impl_RunTurnsK {γ : Type} (q1 : DQueues) (turns2 : Int) (k : (List Int) → Option γ) : Option γ :=
 (impl_turned (q1.1, ()) turns2).bind fun r3 =>
 bif (!r3) then
  k []
 else
 (impl_Queues_copyOf (q1.1, ())).bind fun r4 =>
 nnK turns2 fun i5 =>
 chk (i5 ≤ bigRow) <|
 (loopF impl_RunTurns_l0 (((List.replicate i5 (0 : Int)).length : Int), (0 : Int), (List.replicate i5 (0 : Int)), r4, ())).bind fun z14 =>
 k z14.1
noncomputable def impl_RunTurns (q1 : DQueues) (turns2 : Int) : Option ((List Int)) :=
  impl_RunTurnsK q1 turns2 some
theorem impl_RunTurns_eq {γ : Type} (q1 : DQueues) (turns2 : Int) (k : (List Int) → Option γ) : impl_RunTurnsK q1 turns2 k = (impl_RunTurns q1 turns2).bind k := by
  simp only [impl_RunTurnsK, impl_RunTurns, B0, B1, B2, B3, B4, B5, B6, B7, B8, C1, C2, C3, C4, C5]

/-! loop.example/capkernel/laws.markIntSS -/
noncomputable def laws_markIntSS_v4_l0K {γ : Type} (kq3 : Int) (i4 : Int) (b5 : (List (List Int))) (kn : Int × Int × (List (List Int)) × Unit → Option γ) (kx : Int × (List (List Int)) × Unit → Option γ) : Option γ :=
 bif decide (i4 < (b5.length : Int)) then
  nnK i4 fun i6 =>
  chk (i6 < b5.length) <|
  getK b5 i6 fun v7 =>
  (laws_markIntS kq3 v7).bind fun r8 =>
  kn (r8.1, (IntKind.wrap .i64 (i4 + (1 : Int))), (b5.set i6 r8.2), ())
 else
 kx (kq3, b5, ())
noncomputable def laws_markIntSS_v4_l0 (x : Int × Int × (List (List Int)) × Unit) : Option ((Int × Int × (List (List Int)) × Unit) ⊕ (Int × (List (List Int)) × Unit)) :=
  laws_markIntSS_v4_l0K x.1 x.2.1 x.2.2.1 (fun y => some (.inl y)) (fun a => some (.inr a))
theorem laws_markIntSS_v4_l0_eq {γ : Type} (kq3 : Int) (i4 : Int) (b5 : (List (List Int))) (kn : Int × Int × (List (List Int)) × Unit → Option γ) (kx : Int × (List (List Int)) × Unit → Option γ) : laws_markIntSS_v4_l0K kq3 i4 b5 kn kx = (laws_markIntSS_v4_l0 (kq3, i4, b5, ())).bind fun r => sum2K r kn kx := by
  simp only [laws_markIntSS_v4_l0K, laws_markIntSS_v4_l0, B0, B1, B2, B3, B4, B5, B6, B7, B8, C1, C2, C3, C4, C5]
noncomputable def laws_markIntSS_v4K {γ : Type} (kq1 : Int) (b2 : (List (List Int))) (k : Int × (List (List Int)) → Option γ) : Option γ :=
 (loopF laws_markIntSS_v4_l0 (kq1, (0 : Int), b2, ())).bind fun z9 =>
 k (z9.1, z9.2.1)
noncomputable def laws_markIntSS_v4 (kq1 : Int) (b2 : (List (List Int))) : Option (Int × (List (List Int))) :=
  laws_markIntSS_v4K kq1 b2 some
theorem laws_markIntSS_v4_eq {γ : Type} (kq1 : Int) (b2 : (List (List Int))) (k : Int × (List (List Int)) → Option γ) : laws_markIntSS_v4K kq1 b2 k = (laws_markIntSS_v4 kq1 b2).bind k := by
  simp only [laws_markIntSS_v4K, laws_markIntSS_v4, B0, B1, B2, B3, B4, B5, B6, B7, B8, C1, C2, C3, C4, C5]

/-! loop.example/capkernel/laws.markQueues -/
noncomputable def laws_markQueues_v4K {γ : Type} (kq1 : Int) (b2 : (List (List Int))) (k : Int × (List (List Int)) → Option γ) : Option γ :=
 (laws_markIntSS_v4 kq1 b2).bind fun r3 =>
 k (r3.1, r3.2)
noncomputable def laws_markQueues_v4 (kq1 : Int) (b2 : (List (List Int))) : Option (Int × (List (List Int))) :=
  laws_markQueues_v4K kq1 b2 some
theorem laws_markQueues_v4_eq {γ : Type} (kq1 : Int) (b2 : (List (List Int))) (k : Int × (List (List Int)) → Option γ) : laws_markQueues_v4K kq1 b2 k = (laws_markQueues_v4 kq1 b2).bind k := by
  simp only [laws_markQueues_v4K, laws_markQueues_v4, B0, B1, B2, B3, B4, B5, B6, B7, B8, C1, C2, C3, C4, C5]

/-! loop.example/capkernel/laws.markIntSS -/
noncomputable def laws_markIntSS_v5_l0K {γ : Type} (kq4 : Int) (i5 : Int) (b6 : (List (List Int))) (b7 : (List Int)) (kn : Int × Int × (List (List Int)) × (List Int) × Unit → Option γ) (kx : Int × (List (List Int)) × (List Int) × Unit → Option γ) : Option γ :=
 bif decide (i5 < (b6.length : Int)) then
  nnK i5 fun i8 =>
  chk (i8 < b6.length) <|
  getK b6 i8 fun v9 =>
  (laws_markIntS kq4 v9).bind fun r10 =>
  kn (r10.1, (IntKind.wrap .i64 (i5 + (1 : Int))), (b6.set i8 r10.2), b7, ())
 else
 kx (kq4, b6, b7, ())
noncomputable def laws_markIntSS_v5_l0 (x : Int × Int × (List (List Int)) × (List Int) × Unit) : Option ((Int × Int × (List (List Int)) × (List Int) × Unit) ⊕ (Int × (List (List Int)) × (List Int) × Unit)) :=
  laws_markIntSS_v5_l0K x.1 x.2.1 x.2.2.1 x.2.2.2.1 (fun y => some (.inl y)) (fun a => some (.inr a))
theorem laws_markIntSS_v5_l0_eq {γ : Type} (kq4 : Int) (i5 : Int) (b6 : (List (List Int))) (b7 : (List Int)) (kn : Int × Int × (List (List Int)) × (List Int) × Unit → Option γ) (kx : Int × (List (List Int)) × (List Int) × Unit → Option γ) : laws_markIntSS_v5_l0K kq4 i5 b6 b7 kn kx = (laws_markIntSS_v5_l0 (kq4, i5, b6, b7, ())).bind fun r => sum2K r kn kx := by
  simp only [laws_markIntSS_v5_l0K, laws_markIntSS_v5_l0, B0, B1, B2, B3, B4, B5, B6, B7, B8, C1, C2, C3, C4, C5]
noncomputable def laws_markIntSS_v5K {γ : Type} (kq1 : Int) (b2 : (List (List Int))) (b3 : (List Int)) (k : Int × (List (List Int)) × (List Int) → Option γ) : Option γ :=
 (loopF laws_markIntSS_v5_l0 (kq1, (0 : Int), b2, b3, ())).bind fun z11 =>
 k (z11.1, z11.2.1, z11.2.2.1)
noncomputable def laws_markIntSS_v5 (kq1 : Int) (b2 : (List (List Int))) (b3 : (List Int)) : Option (Int × (List (List Int)) × (List Int)) :=
  laws_markIntSS_v5K kq1 b2 b3 some
theorem laws_markIntSS_v5_eq {γ : Type} (kq1 : Int) (b2 : (List (List Int))) (b3 : (List Int)) (k : Int × (List (List Int)) × (List Int) → Option γ) : laws_markIntSS_v5K kq1 b2 b3 k = (laws_markIntSS_v5 kq1 b2 b3).bind k := by
  simp only [laws_markIntSS_v5K, laws_markIntSS_v5, B0, B1, B2, B3, B4, B5, B6, B7, B8, C1, C2, C3, C4, C5]

/-! loop.example/capkernel/laws.markQueues -/
noncomputable def laws_markQueues_v5K {γ : Type} (kq1 : Int) (b2 : (List (List Int))) (b3 : (List Int)) (k : Int × (List (List Int)) × (List Int) → Option γ) : Option γ :=
 (laws_markIntSS_v5 kq1 b2 b3).bind fun r4 =>
 k (r4.1, r4.2.1, r4.2.2)
noncomputable def laws_markQueues_v5 (kq1 : Int) (b2 : (List (List Int))) (b3 : (List Int)) : Option (Int × (List (List Int)) × (List Int)) :=
  laws_markQueues_v5K kq1 b2 b3 some
theorem laws_markQueues_v5_eq {γ : Type} (kq1 : Int) (b2 : (List (List Int))) (b3 : (List Int)) (k : Int × (List (List Int)) × (List Int) → Option γ) : laws_markQueues_v5K kq1 b2 b3 k = (laws_markQueues_v5 kq1 b2 b3).bind k := by
  simp only [laws_markQueues_v5K, laws_markQueues_v5, B0, B1, B2, B3, B4, B5, B6, B7, B8, C1, C2, C3, C4, C5]

/-! loop.example/capkernel/laws.FnExactRunTurns -/
noncomputable def laws_FnExactRunTurnsK {γ : Type} (aQ1 : DQueues) (aTurns2 : Int) (k : Bool → Option γ) : Option γ :=
 (laws_szQueues (aQ1.1, ()) (1048576 : Int)).bind fun r3 =>
 bif decide (r3 < (0 : Int)) then
  k true
 else
 (laws_toQueues (aQ1.1, ())).bind fun r4 =>
 (spec_RunTurns (r4, ()) aTurns2).bind fun r5 =>
 (laws_toQueues (aQ1.1, ())).bind fun r6 =>
 (impl_RunTurns (r6, ()) aTurns2).bind fun r7 =>
 (laws_eqIntS r7 r5).bind fun r8 =>
 bif (!r8) then
  k false
 else
 (laws_toQueues (aQ1.1, ())).bind fun r9 =>
 (laws_eqQueues (r6, ()) (r9, ())).bind fun r10 =>
 bif (!r10) then
  k false
 else
 (laws_markQueues_v5 (1 : Int) r6 r7).bind fun r11 =>
 bif (!decide (r11.1 < (0 : Int))) then
  (laws_eqIntS r11.2.2 r5).bind fun r12 =>
  bif (!r12) then
   k false
  else
  (laws_markIntS (1 : Int) r11.2.2).bind fun r13 =>
  (laws_heldIntS r13.2 (1 : Int)).bind fun r14 =>
  bif decide (r14 < (0 : Int)) then
   k false
  else
  bif (r14 != r13.1) then
   k false
  else
  (laws_toQueues (aQ1.1, ())).bind fun r15 =>
  (impl_RunTurns (r15, ()) aTurns2).bind fun r16 =>
  (laws_eqIntS r16 r5).bind fun r17 =>
  bif (!r17) then
   k false
  else
  (laws_heldIntS r13.2 (1 : Int)).bind fun r18 =>
  bif decide (r18 < (0 : Int)) then
   k false
  else
  bif (r18 != r13.1) then
   k false
  else
  k true
 else
 k false
noncomputable def laws_FnExactRunTurns (aQ1 : DQueues) (aTurns2 : Int) : Option (Bool) :=
  laws_FnExactRunTurnsK aQ1 aTurns2 some
theorem laws_FnExactRunTurns_eq {γ : Type} (aQ1 : DQueues) (aTurns2 : Int) (k : Bool → Option γ) : laws_FnExactRunTurnsK aQ1 aTurns2 k = (laws_FnExactRunTurns aQ1 aTurns2).bind k := by
  simp only [laws_FnExactRunTurnsK, laws_FnExactRunTurns, B0, B1, B2, B3, B4, B5, B6, B7, B8, C1, C2, C3, C4, C5]

/-! loop.example/capkernel/spec.TurnsOf -/
noncomputable def spec_TurnsOf_l0K {γ : Type} (thread7 : Int) (n8 : Int) (list9 : (List Int)) (kq10 : Int) (kn : Int × Int × (List Int) × Int × Unit → Option γ) (kx : Int × Unit → Option γ) : Option γ :=
 bif decide (kq10 < (list9.length : Int)) then
  nnK kq10 fun i11 =>
  getK list9 i11 fun v12 =>
  bif (v12 == thread7) then
   bif decide (thread7 ≥ (0 : Int)) then
    kn (thread7, (IntKind.wrap .i64 (n8 + (1 : Int))), list9, (IntKind.wrap .i64 (kq10 + (1 : Int))), ())
   else
   kn (thread7, n8, list9, (IntKind.wrap .i64 (kq10 + (1 : Int))), ())
  else
  kn (thread7, n8, list9, (IntKind.wrap .i64 (kq10 + (1 : Int))), ())
 else
 kx (n8, ())
noncomputable def spec_TurnsOf_l0 (x : Int × Int × (List Int) × Int × Unit) : Option ((Int × Int × (List Int) × Int × Unit) ⊕ (Int × Unit)) :=
  spec_TurnsOf_l0K x.1 x.2.1 x.2.2.1 x.2.2.2.1 (fun y => some (.inl y)) (fun a => some (.inr a))
theorem spec_TurnsOf_l0_eq {γ : Type} (thread7 : Int) (n8 : Int) (list9 : (List Int)) (kq10 : Int) (kn : Int × Int × (List Int) × Int × Unit → Option γ) (kx : Int × Unit → Option γ) : spec_TurnsOf_l0K thread7 n8 list9 kq10 kn kx = (spec_TurnsOf_l0 (thread7, n8, list9, kq10, ())).bind fun r => sum2K r kn kx := by
  simp only [spec_TurnsOf_l0K, spec_TurnsOf_l0, B0, B1, B2, B3, B4, B5, B6, B7, B8, C1, C2, C3, C4, C5]
noncomputable def spec_TurnsOfK {γ : Type} (q1 : DQueues) (thread2 : Int) (turns3 : Int) (k : Int → Option γ) : Option γ :=
 (spec_QueuesValid (q1.1, ())).bind fun r4 =>
 bif (!(!r4)) then
  (spec_l1In turns3 (0 : Int) (200 : Int)).bind fun r5 =>
  bif (!r5) then
   k (-1 : Int)
  else
  (spec_RunTurns (q1.1, ()) turns3).bind fun r6 =>
  (loopF spec_TurnsOf_l0 (thread2, (0 : Int), r6, (0 : Int), ())).bind fun z13 =>
  k z13.1
 else
 k (-1 : Int)
noncomputable def spec_TurnsOf (q1 : DQueues) (thread2 : Int) (turns3 : Int) : Option (Int) :=
  spec_TurnsOfK q1 thread2 turns3 some
theorem spec_TurnsOf_eq {γ : Type} (q1 : DQueues) (thread2 : Int) (turns3 : Int) (k : Int → Option γ) : spec_TurnsOfK q1 thread2 turns3 k = (spec_TurnsOf q1 thread2 turns3).bind k := by
  simp only [spec_TurnsOfK, spec_TurnsOf, B0, B1, B2, B3, B4, B5, B6, B7, B8, C1, C2, C3, C4, C5]

/-! loop.example/capkernel/impl.TurnsOf -/
noncomputable def impl_TurnsOf_l1K {γ : Type} (thread7 : Int) (n8 : Int) (a9 : (List Int)) (a10 : Int) (a11 : Int) (kn : Int × Int × (List Int) × Int × Int × Unit → Option γ) (kx : Int × Unit → Option γ) : Option γ :=
 bif decide (a11 < a10) then
  nnK a11 fun i12 =>
  getK a9 i12 fun v13 =>
  bif (v13 == thread7) then
   kn (thread7, (IntKind.wrap .i64 (n8 + (1 : Int))), a9, a10, (IntKind.wrap .i64 (a11 + (1 : Int))), ())
  else
  kn (thread7, n8, a9, a10, (IntKind.wrap .i64 (a11 + (1 : Int))), ())
 else
 kx (n8, ())
noncomputable def impl_TurnsOf_l1 (x : Int × Int × (List Int) × Int × Int × Unit) : Option ((Int × Int × (List Int) × Int × Int × Unit) ⊕ (Int × Unit)) :=
  impl_TurnsOf_l1K x.1 x.2.1 x.2.2.1 x.2.2.2.1 x.2.2.2.2.1 (fun y => some (.inl y)) (fun a => some (.inr a))
theorem impl_TurnsOf_l1_eq {γ : Type} (thread7 : Int) (n8 : Int) (a9 : (List Int)) (a10 : Int) (a11 : Int) (kn : Int × Int × (List Int) × Int × Int × Unit → Option γ) (kx : Int × Unit → Option γ) : impl_TurnsOf_l1K thread7 n8 a9 a10 a11 kn kx = (impl_TurnsOf_l1 (thread7, n8, a9, a10, a11, ())).bind fun r => sum2K r kn kx := by
  simp only [impl_TurnsOf_l1K, impl_TurnsOf_l1, B0, B1, B2, B3, B4, B5, B6, B7, B8, C1, C2, C3, C4, C5]
noncomputable def impl_TurnsOfK {γ : Type} (q1 : DQueues) (thread2 : Int) (turns3 : Int) (k : Int → Option γ) : Option γ :=
 (impl_turned (q1.1, ()) turns3).bind fun r4 =>
 bif (!r4) then
  k (-1 : Int)
 else
 (impl_isThread thread2).bind fun r5 =>
 bif (!r5) then
  k (0 : Int)
 else
 (impl_RunTurns (q1.1, ()) turns3).bind fun r6 =>
 (loopF impl_TurnsOf_l1 (thread2, (0 : Int), r6, (r6.length : Int), (0 : Int), ())).bind fun z14 =>
 k z14.1
noncomputable def impl_TurnsOf (q1 : DQueues) (thread2 : Int) (turns3 : Int) : Option (Int) :=
  impl_TurnsOfK q1 thread2 turns3 some
theorem impl_TurnsOf_eq {γ : Type} (q1 : DQueues) (thread2 : Int) (turns3 : Int) (k : Int → Option γ) : impl_TurnsOfK q1 thread2 turns3 k = (impl_TurnsOf q1 thread2 turns3).bind k := by
  simp only [impl_TurnsOfK, impl_TurnsOf, B0, B1, B2, B3, B4, B5, B6, B7, B8, C1, C2, C3, C4, C5]

/-! loop.example/capkernel/laws.FnExactTurnsOf -/
noncomputable def laws_FnExactTurnsOfK {γ : Type} (aQ1 : DQueues) (aThread2 : Int) (aTurns3 : Int) (k : Bool → Option γ) : Option γ :=
 (laws_szQueues (aQ1.1, ()) (1048576 : Int)).bind fun r4 =>
 bif decide (r4 < (0 : Int)) then
  k true
 else
 (laws_toQueues (aQ1.1, ())).bind fun r5 =>
 (spec_TurnsOf (r5, ()) aThread2 aTurns3).bind fun r6 =>
 (laws_toQueues (aQ1.1, ())).bind fun r7 =>
 (impl_TurnsOf (r7, ()) aThread2 aTurns3).bind fun r8 =>
 bif (r8 != r6) then
  k false
 else
 (laws_toQueues (aQ1.1, ())).bind fun r9 =>
 (laws_eqQueues (r7, ()) (r9, ())).bind fun r10 =>
 bif (!r10) then
  k false
 else
 k true
noncomputable def laws_FnExactTurnsOf (aQ1 : DQueues) (aThread2 : Int) (aTurns3 : Int) : Option (Bool) :=
  laws_FnExactTurnsOfK aQ1 aThread2 aTurns3 some
theorem laws_FnExactTurnsOf_eq {γ : Type} (aQ1 : DQueues) (aThread2 : Int) (aTurns3 : Int) (k : Bool → Option γ) : laws_FnExactTurnsOfK aQ1 aThread2 aTurns3 k = (laws_FnExactTurnsOf aQ1 aThread2 aTurns3).bind k := by
  simp only [laws_FnExactTurnsOfK, laws_FnExactTurnsOf, B0, B1, B2, B3, B4, B5, B6, B7, B8, C1, C2, C3, C4, C5]

/-! loop.example/capkernel/spec.ReadyRemove -/
noncomputable def spec_ReadyRemove_l0K {γ : Type} (thread7 : Int) (q8 : DQueues) (p9 : Int) (kq10 : Int) (b11 : (List (List Int))) (kn : Int × DQueues × Int × Int × (List (List Int)) × Unit → Option γ) (kx : (List (List Int)) × Unit → Option γ) : Option γ :=
 nnK p9 fun i12 =>
 getK q8.1 i12 fun v13 =>
 bif decide (kq10 < (v13.length : Int)) then
  nnK p9 fun i14 =>
  getK q8.1 i14 fun v15 =>
  nnK kq10 fun i16 =>
  getK v15 i16 fun v17 =>
  bif (v17 != thread7) then
   nnK p9 fun i18 =>
   chk (i18 < b11.length) <|
   nnK p9 fun i19 =>
   getK q8.1 i19 fun v20 =>
   nnK kq10 fun i21 =>
   getK v20 i21 fun v22 =>
   getK b11 i18 fun v23 =>
   chk ((v23.length + 1) ≤ bigRow) <|
   nnK p9 fun i24 =>
   chk (i24 < b11.length) <|
   chk (i24 < b11.length) <|
   chk (i18 = i24) <|
   kn (thread7, q8, p9, (IntKind.wrap .i64 (kq10 + (1 : Int))), (b11.set i24 (v23 ++ [v22])), ())
  else
  kn (thread7, q8, p9, (IntKind.wrap .i64 (kq10 + (1 : Int))), b11, ())
 else
 kx (b11, ())
noncomputable def spec_ReadyRemove_l0 (x : Int × DQueues × Int × Int × (List (List Int)) × Unit) : Option ((Int × DQueues × Int × Int × (List (List Int)) × Unit) ⊕ ((List (List Int)) × Unit)) :=
  spec_ReadyRemove_l0K x.1 x.2.1 x.2.2.1 x.2.2.2.1 x.2.2.2.2.1 (fun y => some (.inl y)) (fun a => some (.inr a))
theorem spec_ReadyRemove_l0_eq {γ : Type} (thread7 : Int) (q8 : DQueues) (p9 : Int) (kq10 : Int) (b11 : (List (List Int))) (kn : Int × DQueues × Int × Int × (List (List Int)) × Unit → Option γ) (kx : (List (List Int)) × Unit → Option γ) : spec_ReadyRemove_l0K thread7 q8 p9 kq10 b11 kn kx = (spec_ReadyRemove_l0 (thread7, q8, p9, kq10, b11, ())).bind fun r => sum2K r kn kx := by
  simp only [spec_ReadyRemove_l0K, spec_ReadyRemove_l0, B0, B1, B2, B3, B4, B5, B6, B7, B8, C1, C2, C3, C4, C5]
noncomputable def spec_ReadyRemoveK {γ : Type} (q1 : DQueues) (thread2 : Int) (k : Bool × (List (List Int)) → Option γ) : Option γ :=
 (spec_QueuesValid (q1.1, ())).bind fun r3 =>
 bif (!r3) then
  k (false, [])
 else
 (spec_l8Copy (q1.1, ())).bind fun r4 =>
 (spec_ReadyPrio (q1.1, ()) thread2).bind fun r5 =>
 bif decide (r5 < (0 : Int)) then
  k (false, r4)
 else
 nnK r5 fun i6 =>
 chk (i6 < r4.length) <|
 chk (i6 < r4.length) <|
 (loopF spec_ReadyRemove_l0 (thread2, (q1.1, ()), r5, (0 : Int), (r4.set i6 []), ())).bind fun z25 =>
 k (true, z25.1)
noncomputable def spec_ReadyRemove (q1 : DQueues) (thread2 : Int) : Option (Bool × (List (List Int))) :=
  spec_ReadyRemoveK q1 thread2 some
theorem spec_ReadyRemove_eq {γ : Type} (q1 : DQueues) (thread2 : Int) (k : Bool × (List (List Int)) → Option γ) : spec_ReadyRemoveK q1 thread2 k = (spec_ReadyRemove q1 thread2).bind k := by
  simp only [spec_ReadyRemoveK, spec_ReadyRemove, B0, B1, B2, B3, B4, B5, B6, B7, B8, C1, C2, C3, C4, C5]

/-! loop.example/capkernel/impl.ReadyRemove$1 -/
noncomputable def impl_ReadyRemove_c1K {γ : Type} (n1 : Int) (p2 : Int) (k : Bool → Option γ) : Option γ :=
 k (n1 == p2)
noncomputable def impl_ReadyRemove_c1 (n1 : Int) (p2 : Int) : Option (Bool) :=
  impl_ReadyRemove_c1K n1 p2 some
theorem impl_ReadyRemove_c1_eq {γ : Type} (n1 : Int) (p2 : Int) (k : Bool → Option γ) : impl_ReadyRemove_c1K n1 p2 k = (impl_ReadyRemove_c1 n1 p2).bind k := by
  simp only [impl_ReadyRemove_c1K, impl_ReadyRemove_c1, B0, B1, B2, B3, B4, B5, B6, B7, B8, C1, C2, C3, C4, C5]

/-! slices.IndexFunc(()int,int) -/
noncomputable def slices_IndexFunc_int_v2_l0K {γ : Type} (sq3 : (List Int)) (f4 : Int) (a5 : Int) (a6 : Int) (kn : (List Int) × Int × Int × Int × Unit → Option γ) (kx : Unit → Option γ) (kr : Int × Unit → Option γ) : Option γ :=
 bif decide (a6 < a5) then
  nnK a6 fun i7 =>
  getK sq3 i7 fun v8 =>
  (impl_ReadyRemove_c1 v8 f4).bind fun r9 =>
  bif r9 then
   kr (a6, ())
  else
  kn (sq3, f4, a5, (IntKind.wrap .i64 (a6 + (1 : Int))), ())
 else
 kx ()
noncomputable def slices_IndexFunc_int_v2_l0 (x : (List Int) × Int × Int × Int × Unit) : Option (((List Int) × Int × Int × Int × Unit) ⊕ ((Unit) ⊕ (Int × Unit))) :=
  slices_IndexFunc_int_v2_l0K x.1 x.2.1 x.2.2.1 x.2.2.2.1 (fun y => some (.inl y)) (fun a => some (.inr (.inl a))) (fun b => some (.inr (.inr b)))
theorem slices_IndexFunc_int_v2_l0_eq {γ : Type} (sq3 : (List Int)) (f4 : Int) (a5 : Int) (a6 : Int) (kn : (List Int) × Int × Int × Int × Unit → Option γ) (kx : Unit → Option γ) (kr : Int × Unit → Option γ) : slices_IndexFunc_int_v2_l0K sq3 f4 a5 a6 kn kx kr = (slices_IndexFunc_int_v2_l0 (sq3, f4, a5, a6, ())).bind fun r => sum3K r kn kx kr := by
  simp only [slices_IndexFunc_int_v2_l0K, slices_IndexFunc_int_v2_l0, B0, B1, B2, B3, B4, B5, B6, B7, B8, C1, C2, C3, C4, C5]
noncomputable def slices_IndexFunc_int_v2K {γ : Type} (sq1 : (List Int)) (f2 : Int) (k : Int → Option γ) : Option γ :=
 (loopF slices_IndexFunc_int_v2_l0 (sq1, f2, (sq1.length : Int), (0 : Int), ())).bind fun q => endK q (fun z10 =>
  k (-1 : Int)) (fun z11 =>
  k z11.1)
noncomputable def slices_IndexFunc_int_v2 (sq1 : (List Int)) (f2 : Int) : Option (Int) :=
  slices_IndexFunc_int_v2K sq1 f2 some
theorem slices_IndexFunc_int_v2_eq {γ : Type} (sq1 : (List Int)) (f2 : Int) (k : Int → Option γ) : slices_IndexFunc_int_v2K sq1 f2 k = (slices_IndexFunc_int_v2 sq1 f2).bind k := by
  simp only [slices_IndexFunc_int_v2K, slices_IndexFunc_int_v2, B0, B1, B2, B3, B4, B5, B6, B7, B8, C1, C2, C3, C4, C5]

/-! slices.DeleteFunc(()int,int) -/
noncomputable def slices_DeleteFunc_int_l0K {γ : Type} (del4 : Int) (i5 : Int) (j6 : Int) (b7 : (List Int)) (kn : Int × Int × Int × (List Int) × Unit → Option γ) (kx : Int × (List Int) × Unit → Option γ) : Option γ :=
 bif decide (j6 < (b7.length : Int)) then
  nnK j6 fun i8 =>
  chk (i8 < b7.length) <|
  getK b7 i8 fun v9 =>
  (impl_ReadyRemove_c1 v9 del4).bind fun r10 =>
  bif (!r10) then
   nnK i5 fun i11 =>
   chk (i11 < b7.length) <|
   getK b7 i11 fun y12 =>
   kn (del4, (IntKind.wrap .i64 (i5 + (1 : Int))), (IntKind.wrap .i64 (j6 + (1 : Int))), (b7.set i11 v9), ())
  else
  kn (del4, i5, (IntKind.wrap .i64 (j6 + (1 : Int))), b7, ())
 else
 kx (i5, b7, ())
noncomputable def slices_DeleteFunc_int_l0 (x : Int × Int × Int × (List Int) × Unit) : Option ((Int × Int × Int × (List Int) × Unit) ⊕ (Int × (List Int) × Unit)) :=
  slices_DeleteFunc_int_l0K x.1 x.2.1 x.2.2.1 x.2.2.2.1 (fun y => some (.inl y)) (fun a => some (.inr a))
theorem slices_DeleteFunc_int_l0_eq {γ : Type} (del4 : Int) (i5 : Int) (j6 : Int) (b7 : (List Int)) (kn : Int × Int × Int × (List Int) × Unit → Option γ) (kx : Int × (List Int) × Unit → Option γ) : slices_DeleteFunc_int_l0K del4 i5 j6 b7 kn kx = (slices_DeleteFunc_int_l0 (del4, i5, j6, b7, ())).bind fun r => sum2K r kn kx := by
  simp only [slices_DeleteFunc_int_l0K, slices_DeleteFunc_int_l0, B0, B1, B2, B3, B4, B5, B6, B7, B8, C1, C2, C3, C4, C5]
noncomputable def slices_DeleteFunc_intK {γ : Type} (del1 : Int) (b2 : (List Int)) (k : Nat × (List Int) → Option γ) : Option γ :=
 (slices_IndexFunc_int_v2 b2 del1).bind fun r3 =>
 bif (r3 == (-1 : Int)) then
  k (b2.length, b2)
 else
 (loopF slices_DeleteFunc_int_l0 (del1, r3, (IntKind.wrap .i64 (r3 + (1 : Int))), b2, ())).bind fun z13 =>
 nnK z13.1 fun i14 =>
 chk (i14 ≤ z13.2.1.length) <|
 nnK z13.1 fun i15 =>
 chk (i15 ≤ (over z13.2.1 i14 (List.replicate (z13.2.1.length - i14) (0 : Int))).length) <|
 k (i15, (over z13.2.1 i14 (List.replicate (z13.2.1.length - i14) (0 : Int))))
noncomputable def slices_DeleteFunc_int (del1 : Int) (b2 : (List Int)) : Option (Nat × (List Int)) :=
  slices_DeleteFunc_intK del1 b2 some
theorem slices_DeleteFunc_int_eq {γ : Type} (del1 : Int) (b2 : (List Int)) (k : Nat × (List Int) → Option γ) : slices_DeleteFunc_intK del1 b2 k = (slices_DeleteFunc_int del1 b2).bind k := by
  simp only [slices_DeleteFunc_intK, slices_DeleteFunc_int, B0, B1, B2, B3, B4, B5, B6, B7, B8, C1, C2, C3, C4, C5]

/-! loop.example/capkernel/impl.ReadyRemove -/
noncomputable def impl_ReadyRemoveK {γ : Type} (q1 : DQueues) (thread2 : Int) (k : Bool × (List (List Int)) → Option γ) : Option γ :=
 (impl_QueuesValid (q1.1, ())).bind fun r3 =>
 bif (!r3) then
  k (false, [])
 else
 (impl_Queues_copyOf (q1.1, ())).bind fun r4 =>
 (impl_Queues_prio (q1.1, ()) thread2).bind fun r5 =>
 bif decide (r5 < (0 : Int)) then
  k (false, r4)
 else
 nnK r5 fun i6 =>
 chk (i6 < r4.length) <|
 getK r4 i6 fun v7 =>
 (slices_DeleteFunc_int thread2 v7).bind fun r8 =>
 (impl_clone_int ((r8.2.drop 0).take r8.1)).bind fun r9 =>
 nnK r5 fun i10 =>
 chk (i10 < r4.length) <|
 chk (i10 < r4.length) <|
 chk (i6 = i10) <|
 k (true, (r4.set i10 r9))
noncomputable def impl_ReadyRemove (q1 : DQueues) (thread2 : Int) : Option (Bool × (List (List Int))) :=
  impl_ReadyRemoveK q1 thread2 some
theorem impl_ReadyRemove_eq {γ : Type} (q1 : DQueues) (thread2 : Int) (k : Bool × (List (List Int)) → Option γ) : impl_ReadyRemoveK q1 thread2 k = (impl_ReadyRemove q1 thread2).bind k := by
  simp only [impl_ReadyRemoveK, impl_ReadyRemove, B0, B1, B2, B3, B4, B5, B6, B7, B8, C1, C2, C3, C4, C5]

/-! loop.example/capkernel/laws.FnExactReadyRemove -/
noncomputable def laws_FnExactReadyRemoveK {γ : Type} (aQ1 : DQueues) (aThread2 : Int) (k : Bool → Option γ) : Option γ :=
 (laws_szQueues (aQ1.1, ()) (1048576 : Int)).bind fun r3 =>
 bif decide (r3 < (0 : Int)) then
  k true
 else
 (laws_toQueues (aQ1.1, ())).bind fun r4 =>
 (spec_ReadyRemove (r4, ()) aThread2).bind fun r5 =>
 (laws_toQueues (aQ1.1, ())).bind fun r6 =>
 (impl_ReadyRemove (r6, ()) aThread2).bind fun r7 =>
 (laws_eqQueues (r7.2, ()) (r5.2, ())).bind fun r8 =>
 bif (!(!r8)) then
  bif (!(r7.1 == r5.1)) then
   k false
  else
  (laws_toQueues (aQ1.1, ())).bind fun r9 =>
  (laws_eqQueues (r6, ()) (r9, ())).bind fun r10 =>
  bif (!r10) then
   k false
  else
  (laws_markQueues_v2 (1 : Int) r5.2 r6 r7.2).bind fun r11 =>
  bif (!decide (r11.1 < (0 : Int))) then
   (laws_eqQueues (r11.2.2.2, ()) (r11.2.1, ())).bind fun r12 =>
   bif (!(!r12)) then
    bif (!(r7.1 == r5.1)) then
     k false
    else
    (laws_markQueues_v3 (1 : Int) r11.2.1 r11.2.2.1 r11.2.2.2).bind fun r13 =>
    (laws_heldQueues (r13.2.2.2, ()) (1 : Int)).bind fun r14 =>
    bif decide (r14 < (0 : Int)) then
     k false
    else
    bif (r14 != r13.1) then
     k false
    else
    (laws_toQueues (aQ1.1, ())).bind fun r15 =>
    (impl_ReadyRemove (r15, ()) aThread2).bind fun r16 =>
    (laws_eqQueues (r16.2, ()) (r13.2.1, ())).bind fun r17 =>
    bif (!(!r17)) then
     bif (!(r16.1 == r5.1)) then
      k false
     else
     (laws_heldQueues (r13.2.2.2, ()) (1 : Int)).bind fun r18 =>
     bif decide (r18 < (0 : Int)) then
      k false
     else
     bif (r18 != r13.1) then
      k false
     else
     k true
    else
    k false
   else
   k false
  else
  k false
 else
 k false
noncomputable def laws_FnExactReadyRemove (aQ1 : DQueues) (aThread2 : Int) : Option (Bool) :=
  laws_FnExactReadyRemoveK aQ1 aThread2 some
theorem laws_FnExactReadyRemove_eq {γ : Type} (aQ1 : DQueues) (aThread2 : Int) (k : Bool → Option γ) : laws_FnExactReadyRemoveK aQ1 aThread2 k = (laws_FnExactReadyRemove aQ1 aThread2).bind k := by
  simp only [laws_FnExactReadyRemoveK, laws_FnExactReadyRemove, B0, B1, B2, B3, B4, B5, B6, B7, B8, C1, C2, C3, C4, C5]

/-! loop.example/capkernel/spec.l20Open -/
noncomputable def spec_l20OpenK {γ : Type} (code1 : (List Int)) (k : Dl20Rd → Option γ) : Option γ :=
 bif decide ((code1.length : Int) > (2000 : Int)) then
  chk (2000 ≤ code1.length) <|
  k ((code1.take 2000), (0 : Int), ())
 else
 k (code1, (0 : Int), ())
noncomputable def spec_l20Open (code1 : (List Int)) : Option (Dl20Rd) :=
  spec_l20OpenK code1 some
theorem spec_l20Open_eq {γ : Type} (code1 : (List Int)) (k : Dl20Rd → Option γ) : spec_l20OpenK code1 k = (spec_l20Open code1).bind k := by
  simp only [spec_l20OpenK, spec_l20Open, B0, B1, B2, B3, B4, B5, B6, B7, B8, C1, C2, C3, C4, C5]

/-! (*loop.example/capkernel/spec.l20Rd).pick -/
noncomputable def spec_l20Rd_pickK {γ : Type} (n1 : Int) (b2 : Dl20Rd) (k : Int × Dl20Rd → Option γ) : Option γ :=
 bif (!decide (n1 < (1 : Int))) then
  bif ((b2.1.length : Int) == (0 : Int)) then
   k ((0 : Int), (b2.1, (IntKind.wrap .i64 (b2.2.1 + (1 : Int))), ()))
  else
  bif decide ((IntKind.wrap .i64 ((IntKind.wrap .i64 (b2.2.1 + (1 : Int))) - (1 : Int))) < (b2.1.length : Int)) then
   nnK (IntKind.wrap .i64 ((IntKind.wrap .i64 (b2.2.1 + (1 : Int))) - (1 : Int))) fun i3 =>
   getK b2.1 i3 fun v4 =>
   chk (n1 ≠ 0) <|
   k ((Int.tmod (IntKind.wrap .i64 (v4)) n1), (b2.1, (IntKind.wrap .i64 (b2.2.1 + (1 : Int))), ()))
  else
  chk ((b2.1.length : Int) ≠ 0) <|
  nnK (Int.tmod (IntKind.wrap .i64 ((IntKind.wrap .i64 (b2.2.1 + (1 : Int))) - (1 : Int))) (b2.1.length : Int)) fun i5 =>
  getK b2.1 i5 fun v6 =>
  chk ((b2.1.length : Int) ≠ 0) <|
  nnK (Int.tmod (IntKind.wrap .i64 ((IntKind.wrap .i64 ((IntKind.wrap .i64 ((IntKind.wrap .i64 (b2.2.1 + (1 : Int))) - (1 : Int))) * (7 : Int))) + (3 : Int))) (b2.1.length : Int)) fun i7 =>
  getK b2.1 i7 fun v8 =>
  chk ((b2.1.length : Int) ≠ 0) <|
  chk (n1 ≠ 0) <|
  k ((Int.tmod (IntKind.wrap .i64 (((BitVec.ofInt 64 (IntKind.wrap .i64 ((IntKind.wrap .i64 ((IntKind.wrap .i64 ((IntKind.wrap .i64 ((IntKind.wrap .i64 (v6)) * (131 : Int))) + (IntKind.wrap .i64 ((IntKind.wrap .i64 (v8)) * (1117 : Int))))) + (IntKind.wrap .i64 ((IntKind.wrap .i64 ((IntKind.wrap .i64 (b2.2.1 + (1 : Int))) - (1 : Int))) * (29 : Int))))) + (IntKind.wrap .i64 ((IntKind.wrap .i64 (Int.tdiv (IntKind.wrap .i64 ((IntKind.wrap .i64 (b2.2.1 + (1 : Int))) - (1 : Int))) (b2.1.length : Int))) * (53 : Int))))) ^^^ BitVec.ofInt 64 (IntKind.wrap .i64 (Int.tdiv (IntKind.wrap .i64 ((IntKind.wrap .i64 ((IntKind.wrap .i64 ((IntKind.wrap .i64 ((IntKind.wrap .i64 (v6)) * (131 : Int))) + (IntKind.wrap .i64 ((IntKind.wrap .i64 (v8)) * (1117 : Int))))) + (IntKind.wrap .i64 ((IntKind.wrap .i64 ((IntKind.wrap .i64 (b2.2.1 + (1 : Int))) - (1 : Int))) * (29 : Int))))) + (IntKind.wrap .i64 ((IntKind.wrap .i64 (Int.tdiv (IntKind.wrap .i64 ((IntKind.wrap .i64 (b2.2.1 + (1 : Int))) - (1 : Int))) (b2.1.length : Int))) * (53 : Int))))) (64 : Int)))).toNat : Int))) n1), (b2.1, (IntKind.wrap .i64 (b2.2.1 + (1 : Int))), ()))
 else
 k ((0 : Int), (b2.1, (IntKind.wrap .i64 (b2.2.1 + (1 : Int))), ()))
noncomputable def spec_l20Rd_pick (n1 : Int) (b2 : Dl20Rd) : Option (Int × Dl20Rd) :=
  spec_l20Rd_pickK n1 b2 some
theorem spec_l20Rd_pick_eq {γ : Type} (n1 : Int) (b2 : Dl20Rd) (k : Int × Dl20Rd → Option γ) : spec_l20Rd_pickK n1 b2 k = (spec_l20Rd_pick n1 b2).bind k := by
  simp only [spec_l20Rd_pickK, spec_l20Rd_pick, B0, B1, B2, B3, B4, B5, B6, B7, B8, C1, C2, C3, C4, C5]

/-! (*loop.example/capkernel/spec.l20Rd).odd -/
noncomputable def spec_l20Rd_oddK {γ : Type} (n1 : Int) (b2 : Dl20Rd) (k : Bool × Dl20Rd → Option γ) : Option γ :=
 bif decide (n1 > (0 : Int)) then
  (spec_l20Rd_pick n1 b2).bind fun r3 =>
  k ((r3.1 == (IntKind.wrap .i64 (n1 - (1 : Int)))), r3.2)
 else
 k (false, b2)
noncomputable def spec_l20Rd_odd (n1 : Int) (b2 : Dl20Rd) : Option (Bool × Dl20Rd) :=
  spec_l20Rd_oddK n1 b2 some
theorem spec_l20Rd_odd_eq {γ : Type} (n1 : Int) (b2 : Dl20Rd) (k : Bool × Dl20Rd → Option γ) : spec_l20Rd_oddK n1 b2 k = (spec_l20Rd_odd n1 b2).bind k := by
  simp only [spec_l20Rd_oddK, spec_l20Rd_odd, B0, B1, B2, B3, B4, B5, B6, B7, B8, C1, C2, C3, C4, C5]

/-! loop.example/capkernel/spec.l20Queues -/
noncomputable def spec_l20Queues_l0K {γ : Type} (n6 : Int) (few7 : Int) (kq8 : Int) (b9 : Dl20Rd) (b10 : (List (List Int))) (kn : Int × Int × Int × Dl20Rd × (List (List Int)) × Unit → Option γ) (kx : Int × Dl20Rd × (List (List Int)) × Unit → Option γ) : Option γ :=
 bif decide (kq8 > (0 : Int)) then
  (spec_l20Rd_pick (16 : Int) b9).bind fun r11 =>
  (spec_l20Rd_pick few7 r11.2).bind fun r12 =>
  (spec_ReadyAdd (b10, ()) r11.1 (IntKind.wrap .i64 (r12.1 * (3 : Int)))).bind fun r13 =>
  kn (n6, few7, (IntKind.wrap .i64 (kq8 - (1 : Int))), r12.2, r13.2, ())
 else
 kx (n6, b9, b10, ())
noncomputable def spec_l20Queues_l0 (x : Int × Int × Int × Dl20Rd × (List (List Int)) × Unit) : Option ((Int × Int × Int × Dl20Rd × (List (List Int)) × Unit) ⊕ (Int × Dl20Rd × (List (List Int)) × Unit)) :=
  spec_l20Queues_l0K x.1 x.2.1 x.2.2.1 x.2.2.2.1 x.2.2.2.2.1 (fun y => some (.inl y)) (fun a => some (.inr a))
theorem spec_l20Queues_l0_eq {γ : Type} (n6 : Int) (few7 : Int) (kq8 : Int) (b9 : Dl20Rd) (b10 : (List (List Int))) (kn : Int × Int × Int × Dl20Rd × (List (List Int)) × Unit → Option γ) (kx : Int × Dl20Rd × (List (List Int)) × Unit → Option γ) : spec_l20Queues_l0K n6 few7 kq8 b9 b10 kn kx = (spec_l20Queues_l0 (n6, few7, kq8, b9, b10, ())).bind fun r => sum2K r kn kx := by
  simp only [spec_l20Queues_l0K, spec_l20Queues_l0, B0, B1, B2, B3, B4, B5, B6, B7, B8, C1, C2, C3, C4, C5]
noncomputable def spec_l20QueuesK {γ : Type} (n1 : Int) (b2 : Dl20Rd) (k : Nat × Nat × Dl20Rd × (List (List Int)) → Option γ) : Option γ :=
 (spec_NewQueues).bind fun r3 =>
 (spec_l20Rd_pick (3 : Int) b2).bind fun r4 =>
 (spec_l20Rd_pick (10 : Int) r4.2).bind fun r5 =>
 (loopF spec_l20Queues_l0 (n1, (IntKind.wrap .i64 ((1 : Int) + r4.1)), r5.1, r5.2, r3, ())).bind fun z14 =>
 (spec_l20Rd_odd z14.1 z14.2.1).bind fun r15 =>
 bif r15.1 then
  (spec_l20Rd_pick (3 : Int) r15.2).bind fun r16 =>
  bif (r16.1 == (0 : Int)) then
   chk (1 ≤ z14.2.2.1.length) <|
   k (1, (z14.2.2.1.length - 1), r16.2, z14.2.2.1)
  else
  bif (r16.1 == (1 : Int)) then
   chk (2 < z14.2.2.1.length) <|
   getK z14.2.2.1 2 fun v17 =>
   chk ((v17.length + 2) ≤ bigRow) <|
   chk (2 < z14.2.2.1.length) <|
   chk (2 < z14.2.2.1.length) <|
   chk (2 = 2) <|
   k (0, (z14.2.2.1.set 2 (v17 ++ [(5 : Int), (5 : Int)])).length, r16.2, (z14.2.2.1.set 2 (v17 ++ [(5 : Int), (5 : Int)])))
  else
  chk (1 < z14.2.2.1.length) <|
  (spec_l20Rd_pick (2 : Int) r16.2).bind fun r18 =>
  nnK r18.1 fun i19 =>
  getK [(-1 : Int), (16 : Int)] i19 fun v20 =>
  getK z14.2.2.1 1 fun v21 =>
  chk ((v21.length + 1) ≤ bigRow) <|
  chk (1 < z14.2.2.1.length) <|
  chk (1 < z14.2.2.1.length) <|
  chk (1 = 1) <|
  k (0, (z14.2.2.1.set 1 (v21 ++ [v20])).length, r18.2, (z14.2.2.1.set 1 (v21 ++ [v20])))
 else
 k (0, z14.2.2.1.length, r15.2, z14.2.2.1)
noncomputable def spec_l20Queues (n1 : Int) (b2 : Dl20Rd) : Option (Nat × Nat × Dl20Rd × (List (List Int))) :=
  spec_l20QueuesK n1 b2 some
theorem spec_l20Queues_eq {γ : Type} (n1 : Int) (b2 : Dl20Rd) (k : Nat × Nat × Dl20Rd × (List (List Int)) → Option γ) : spec_l20QueuesK n1 b2 k = (spec_l20Queues n1 b2).bind k := by
  simp only [spec_l20QueuesK, spec_l20Queues, B0, B1, B2, B3, B4, B5, B6, B7, B8, C1, C2, C3, C4, C5]

/-! loop.example/capkernel/spec.DrawReadyAdd -/
noncomputable def spec_DrawReadyAddK {γ : Type} (code1 : (List Int)) (k : Nat × Nat × Int × Int × (List (List Int)) → Option γ) : Option γ :=
 (spec_l20Open code1).bind fun r2 =>
 (spec_l20Queues (12 : Int) r2).bind fun r3 =>
 (spec_l20Rd_pick (17 : Int) r3.2.2.1).bind fun r4 =>
 (spec_l20Rd_pick (14 : Int) r4.2).bind fun r5 =>
 (spec_l20Rd_pick (9 : Int) r5.2).bind fun r6 =>
 (spec_l20Rd_pick (14 : Int) r6.2).bind fun r7 =>
 k (r3.1, r3.2.1, (IntKind.wrap .i64 (r4.1 - (IntKind.wrap .i64 (Int.tdiv r5.1 (13 : Int))))), (IntKind.wrap .i64 (r6.1 - (IntKind.wrap .i64 (Int.tdiv r7.1 (13 : Int))))), r3.2.2.2)
noncomputable def spec_DrawReadyAdd (code1 : (List Int)) : Option (Nat × Nat × Int × Int × (List (List Int))) :=
  spec_DrawReadyAddK code1 some
theorem spec_DrawReadyAdd_eq {γ : Type} (code1 : (List Int)) (k : Nat × Nat × Int × Int × (List (List Int)) → Option γ) : spec_DrawReadyAddK code1 k = (spec_DrawReadyAdd code1).bind k := by
  simp only [spec_DrawReadyAddK, spec_DrawReadyAdd, B0, B1, B2, B3, B4, B5, B6, B7, B8, C1, C2, C3, C4, C5]

/-! loop.example/capkernel/laws.alive -/
noncomputable def laws_aliveK {γ : Type}  (k : Bool → Option γ) : Option γ :=
 k true
noncomputable def laws_alive  : Option (Bool) :=
  laws_aliveK  some
theorem laws_alive_eq {γ : Type}  (k : Bool → Option γ) : laws_aliveK  k = (laws_alive ).bind k := by
  simp only [laws_aliveK, laws_alive, B0, B1, B2, B3, B4, B5, B6, B7, B8, C1, C2, C3, C4, C5]

/-! loop.example/capkernel/impl.ReadyPrio -/
noncomputable def impl_ReadyPrioK {γ : Type} (q1 : DQueues) (thread2 : Int) (k : Int → Option γ) : Option γ :=
 (impl_QueuesValid (q1.1, ())).bind fun r3 =>
 bif (!r3) then
  k (-1 : Int)
 else
 (impl_Queues_prio (q1.1, ()) thread2).bind fun r4 =>
 k r4
noncomputable def impl_ReadyPrio (q1 : DQueues) (thread2 : Int) : Option (Int) :=
  impl_ReadyPrioK q1 thread2 some
theorem impl_ReadyPrio_eq {γ : Type} (q1 : DQueues) (thread2 : Int) (k : Int → Option γ) : impl_ReadyPrioK q1 thread2 k = (impl_ReadyPrio q1 thread2).bind k := by
  simp only [impl_ReadyPrioK, impl_ReadyPrio, B0, B1, B2, B3, B4, B5, B6, B7, B8, C1, C2, C3, C4, C5]

/-! loop.example/capkernel/laws.FnReadyAdd -/
noncomputable def laws_FnReadyAddK {γ : Type} (code1 : (List Int)) (k : Bool → Option γ) : Option γ :=
 bif decide ((code1.length : Int) > (1048576 : Int)) then
  k true
 else
 (spec_DrawReadyAdd code1).bind fun r2 =>
 (impl_ReadyAdd (((r2.2.2.2.2.drop r2.1).take r2.2.1), ()) r2.2.2.1 r2.2.2.2.1).bind fun r3 =>
 (spec_ReadyAdd (((r2.2.2.2.2.drop r2.1).take r2.2.1), ()) r2.2.2.1 r2.2.2.2.1).bind fun r4 =>
 (laws_sameQueues (r3.2, ()) (r4.2, ())).bind fun r5 =>
 bif (!(!r5)) then
  bif (!(r3.1 == r4.1)) then
   k false
  else
  bif (!r3.1) then
   bif (!((r3.2.length : Int) == (0 : Int))) then
    (laws_sameQueues (r3.2, ()) (((r2.2.2.2.2.drop r2.1).take r2.2.1), ())).bind fun r6 =>
    bif r6 then
     (laws_alive).bind fun r7 =>
     k r7
    else
    k false
   else
   (laws_alive).bind fun r8 =>
   k r8
  else
  (impl_ReadyRemove (r3.2, ()) r2.2.2.1).bind fun r9 =>
  (impl_ReadyAdd (r3.2, ()) r2.2.2.1 r2.2.2.2.1).bind fun r10 =>
  (impl_QueuesValid (r3.2, ())).bind fun r11 =>
  bif r11 then
   (impl_ReadyPrio (r3.2, ()) r2.2.2.1).bind fun r12 =>
   bif (r12 == r2.2.2.2.1) then
    nnK r2.2.2.2.1 fun i13 =>
    getK r3.2 i13 fun v14 =>
    nnK r2.2.2.2.1 fun i15 =>
    getK r3.2 i15 fun v16 =>
    nnK (IntKind.wrap .i64 ((v16.length : Int) - (1 : Int))) fun i17 =>
    getK v14 i17 fun v18 =>
    bif (v18 == r2.2.2.1) then
     bif r9.1 then
      (laws_sameQueues (r9.2, ()) (((r2.2.2.2.2.drop r2.1).take r2.2.1), ())).bind fun r19 =>
      bif r19 then
       k (!r10.1)
      else
      k false
     else
     k false
    else
    k false
   else
   k false
  else
  k false
 else
 k false
noncomputable def laws_FnReadyAdd (code1 : (List Int)) : Option (Bool) :=
  laws_FnReadyAddK code1 some
theorem laws_FnReadyAdd_eq {γ : Type} (code1 : (List Int)) (k : Bool → Option γ) : laws_FnReadyAddK code1 k = (laws_FnReadyAdd code1).bind k := by
  simp only [laws_FnReadyAddK, laws_FnReadyAdd, B0, B1, B2, B3, B4, B5, B6, B7, B8, C1, C2, C3, C4, C5]

/-! loop.example/capkernel/spec.DrawReadyTurn -/
noncomputable def spec_DrawReadyTurnK {γ : Type} (code1 : (List Int)) (k : Nat × Nat × (List (List Int)) → Option γ) : Option γ :=
 (spec_l20Open code1).bind fun r2 =>
 (spec_l20Queues (9 : Int) r2).bind fun r3 =>
 k (r3.1, r3.2.1, r3.2.2.2)
noncomputable def spec_DrawReadyTurn (code1 : (List Int)) : Option (Nat × Nat × (List (List Int))) :=
  spec_DrawReadyTurnK code1 some
theorem spec_DrawReadyTurn_eq {γ : Type} (code1 : (List Int)) (k : Nat × Nat × (List (List Int)) → Option γ) : spec_DrawReadyTurnK code1 k = (spec_DrawReadyTurn code1).bind k := by
  simp only [spec_DrawReadyTurnK, spec_DrawReadyTurn, B0, B1, B2, B3, B4, B5, B6, B7, B8, C1, C2, C3, C4, C5]

/-! loop.example/capkernel/laws.FnReadyTurn -/
noncomputable def laws_FnReadyTurn_l0K {γ : Type} (p11 : Int) (kq12 : Int) (b13 : (List (List Int))) (b14 : (List (List Int))) (b15 : (List (List Int))) (kn : Int × Int × (List (List Int)) × (List (List Int)) × (List (List Int)) × Unit → Option γ) (kx : (List (List Int)) × (List (List Int)) × (List (List Int)) × Unit → Option γ) (kr : Bool × Unit → Option γ) : Option γ :=
 nnK p11 fun i16 =>
 getK b13 i16 fun v17 =>
 bif decide (kq12 < (v17.length : Int)) then
  (impl_ReadyNext (b15, ())).bind fun r18 =>
  nnK p11 fun i19 =>
  getK b13 i19 fun v20 =>
  nnK kq12 fun i21 =>
  getK v20 i21 fun v22 =>
  bif (r18 != v22) then
   kr (false, ())
  else
  (impl_ReadyTurn (b15, ())).bind fun r23 =>
  kn (p11, (IntKind.wrap .i64 (kq12 + (1 : Int))), b13, b14, r23, ())
 else
 kx (b13, b14, b15, ())
noncomputable def laws_FnReadyTurn_l0 (x : Int × Int × (List (List Int)) × (List (List Int)) × (List (List Int)) × Unit) : Option ((Int × Int × (List (List Int)) × (List (List Int)) × (List (List Int)) × Unit) ⊕ (((List (List Int)) × (List (List Int)) × (List (List Int)) × Unit) ⊕ (Bool × Unit))) :=
  laws_FnReadyTurn_l0K x.1 x.2.1 x.2.2.1 x.2.2.2.1 x.2.2.2.2.1 (fun y => some (.inl y)) (fun a => some (.inr (.inl a))) (fun b => some (.inr (.inr b)))
theorem laws_FnReadyTurn_l0_eq {γ : Type} (p11 : Int) (kq12 : Int) (b13 : (List (List Int))) (b14 : (List (List Int))) (b15 : (List (List Int))) (kn : Int × Int × (List (List Int)) × (List (List Int)) × (List (List Int)) × Unit → Option γ) (kx : (List (List Int)) × (List (List Int)) × (List (List Int)) × Unit → Option γ) (kr : Bool × Unit → Option γ) : laws_FnReadyTurn_l0K p11 kq12 b13 b14 b15 kn kx kr = (laws_FnReadyTurn_l0 (p11, kq12, b13, b14, b15, ())).bind fun r => sum3K r kn kx kr := by
  simp only [laws_FnReadyTurn_l0K, laws_FnReadyTurn_l0, B0, B1, B2, B3, B4, B5, B6, B7, B8, C1, C2, C3, C4, C5]
noncomputable def laws_FnReadyTurnK {γ : Type} (code1 : (List Int)) (k : Bool → Option γ) : Option γ :=
 bif decide ((code1.length : Int) > (1048576 : Int)) then
  k true
 else
 (spec_DrawReadyTurn code1).bind fun r2 =>
 (impl_ReadyTurn (((r2.2.2.drop r2.1).take r2.2.1), ())).bind fun r3 =>
 (spec_ReadyTurn (((r2.2.2.drop r2.1).take r2.2.1), ())).bind fun r4 =>
 (laws_sameQueues (r3, ()) (r4, ())).bind fun r5 =>
 bif (!r5) then
  k false
 else
 (impl_ReadyNext (((r2.2.2.drop r2.1).take r2.2.1), ())).bind fun r6 =>
 bif decide (r6 < (0 : Int)) then
  bif (!((r3.length : Int) == (0 : Int))) then
   (laws_sameQueues (r3, ()) (((r2.2.2.drop r2.1).take r2.2.1), ())).bind fun r7 =>
   bif r7 then
    (laws_alive).bind fun r8 =>
    k r8
   else
   k false
  else
  (laws_alive).bind fun r9 =>
  k r9
 else
 (impl_ReadyPrio (((r2.2.2.drop r2.1).take r2.2.1), ()) r6).bind fun r10 =>
 bif (!decide (r10 < (0 : Int))) then
  bif decide (r10 ≥ (((r2.2.2.drop r2.1).take r2.2.1).length : Int)) then
   k false
  else
  (loopF laws_FnReadyTurn_l0 (r10, (0 : Int), ((r2.2.2.drop r2.1).take r2.2.1), r3, ((r2.2.2.drop r2.1).take r2.2.1), ())).bind fun q => endK q (fun z24 =>
   (laws_sameQueues (z24.2.2.1, ()) (z24.1, ())).bind fun r26 =>
   bif r26 then
    (impl_QueuesValid (z24.2.1, ())).bind fun r27 =>
    k r27
   else
   k false) (fun z25 =>
   k z25.1)
 else
 k false
noncomputable def laws_FnReadyTurn (code1 : (List Int)) : Option (Bool) :=
  laws_FnReadyTurnK code1 some
theorem laws_FnReadyTurn_eq {γ : Type} (code1 : (List Int)) (k : Bool → Option γ) : laws_FnReadyTurnK code1 k = (laws_FnReadyTurn code1).bind k := by
  simp only [laws_FnReadyTurnK, laws_FnReadyTurn, B0, B1, B2, B3, B4, B5, B6, B7, B8, C1, C2, C3, C4, C5]

/-! loop.example/capkernel/laws.FnQueueFirst -/
noncomputable def laws_FnQueueFirstK {γ : Type} (code1 : (List Int)) (k : Bool → Option γ) : Option γ :=
 bif decide ((code1.length : Int) > (1048576 : Int)) then
  k true
 else
 (spec_DrawReadyAdd code1).bind fun r2 =>
 (impl_ReadyAdd (((r2.2.2.2.2.drop r2.1).take r2.2.1), ()) r2.2.2.1 r2.2.2.2.1).bind fun r3 =>
 (spec_ReadyAdd (((r2.2.2.2.2.drop r2.1).take r2.2.1), ()) r2.2.2.1 r2.2.2.2.1).bind fun r4 =>
 (laws_sameQueues (r3.2, ()) (r4.2, ())).bind fun r5 =>
 bif (!(!r5)) then
  bif (!(r3.1 == r4.1)) then
   k false
  else
  bif (!r3.1) then
   (laws_alive).bind fun r6 =>
   k r6
  else
  (impl_ReadyNext (((r2.2.2.2.2.drop r2.1).take r2.2.1), ())).bind fun r7 =>
  (impl_ReadyPrio (((r2.2.2.2.2.drop r2.1).take r2.2.1), ()) r7).bind fun r8 =>
  bif decide (r2.2.2.2.1 > r8) then
   (impl_ReadyNext (r3.2, ())).bind fun r9 =>
   k (r9 == r2.2.2.1)
  else
  bif (!(r2.2.2.2.1 == r8)) then
   (impl_RunTurns (r3.2, ()) (20 : Int)).bind fun r10 =>
   (impl_RunTurns (((r2.2.2.2.2.drop r2.1).take r2.2.1), ()) (20 : Int)).bind fun r11 =>
   (laws_sameInts r10 r11).bind fun r12 =>
   k r12
  else
  k true
 else
 k false
noncomputable def laws_FnQueueFirst (code1 : (List Int)) : Option (Bool) :=
  laws_FnQueueFirstK code1 some
theorem laws_FnQueueFirst_eq {γ : Type} (code1 : (List Int)) (k : Bool → Option γ) : laws_FnQueueFirstK code1 k = (laws_FnQueueFirst code1).bind k := by
  simp only [laws_FnQueueFirstK, laws_FnQueueFirst, B0, B1, B2, B3, B4, B5, B6, B7, B8, C1, C2, C3, C4, C5]

/-! loop.example/capkernel/spec.DrawLongestWait -/
noncomputable def spec_DrawLongestWaitK {γ : Type} (code1 : (List Int)) (k : Nat × Nat × (List (List Int)) → Option γ) : Option γ :=
 (spec_l20Open code1).bind fun r2 =>
 (spec_l20Queues (9 : Int) r2).bind fun r3 =>
 k (r3.1, r3.2.1, r3.2.2.2)
noncomputable def spec_DrawLongestWait (code1 : (List Int)) : Option (Nat × Nat × (List (List Int))) :=
  spec_DrawLongestWaitK code1 some
theorem spec_DrawLongestWait_eq {γ : Type} (code1 : (List Int)) (k : Nat × Nat × (List (List Int)) → Option γ) : spec_DrawLongestWaitK code1 k = (spec_DrawLongestWait code1).bind k := by
  simp only [spec_DrawLongestWaitK, spec_DrawLongestWait, B0, B1, B2, B3, B4, B5, B6, B7, B8, C1, C2, C3, C4, C5]

/-! loop.example/capkernel/impl.LongestWait -/
noncomputable def impl_LongestWaitK {γ : Type} (q1 : DQueues) (k : Int → Option γ) : Option γ :=
 (impl_QueuesValid (q1.1, ())).bind fun r2 =>
 bif (!r2) then
  k (-1 : Int)
 else
 (impl_Queues_top (q1.1, ())).bind fun r3 =>
 bif decide (r3 < (0 : Int)) then
  k (0 : Int)
 else
 nnK r3 fun i4 =>
 getK q1.1 i4 fun v5 =>
 k (v5.length : Int)
noncomputable def impl_LongestWait (q1 : DQueues) : Option (Int) :=
  impl_LongestWaitK q1 some
theorem impl_LongestWait_eq {γ : Type} (q1 : DQueues) (k : Int → Option γ) : impl_LongestWaitK q1 k = (impl_LongestWait q1).bind k := by
  simp only [impl_LongestWaitK, impl_LongestWait, B0, B1, B2, B3, B4, B5, B6, B7, B8, C1, C2, C3, C4, C5]

/-! loop.example/capkernel/spec.LongestWait -/
noncomputable def spec_LongestWaitK {γ : Type} (q1 : DQueues) (k : Int → Option γ) : Option γ :=
 (spec_QueuesValid (q1.1, ())).bind fun r2 =>
 bif (!r2) then
  k (-1 : Int)
 else
 (spec_ReadyNext (q1.1, ())).bind fun r3 =>
 bif decide (r3 < (0 : Int)) then
  k (0 : Int)
 else
 (spec_ReadyPrio (q1.1, ()) r3).bind fun r4 =>
 nnK r4 fun i5 =>
 getK q1.1 i5 fun v6 =>
 k (v6.length : Int)
noncomputable def spec_LongestWait (q1 : DQueues) : Option (Int) :=
  spec_LongestWaitK q1 some
theorem spec_LongestWait_eq {γ : Type} (q1 : DQueues) (k : Int → Option γ) : spec_LongestWaitK q1 k = (spec_LongestWait q1).bind k := by
  simp only [spec_LongestWaitK, spec_LongestWait, B0, B1, B2, B3, B4, B5, B6, B7, B8, C1, C2, C3, C4, C5]

/-! loop.example/capkernel/laws.FnLongestWait -/
noncomputable def laws_FnLongestWait_l0K {γ : Type} (n11 : Int) (p12 : Int) (kq13 : Int) (b14 : (List (List Int))) (kn : Int × Int × Int × (List (List Int)) × Unit → Option γ) (kx : Int × Int × (List (List Int)) × Unit → Option γ) (kr : Bool × Unit → Option γ) : Option γ :=
 nnK p12 fun i15 =>
 getK b14 i15 fun v16 =>
 bif decide (kq13 < (v16.length : Int)) then
  nnK p12 fun i17 =>
  getK b14 i17 fun v18 =>
  nnK kq13 fun i19 =>
  getK v18 i19 fun v20 =>
  (impl_TurnsOf (b14, ()) v20 n11).bind fun r21 =>
  bif (r21 != (1 : Int)) then
   kr (false, ())
  else
  kn (n11, p12, (IntKind.wrap .i64 (kq13 + (1 : Int))), b14, ())
 else
 kx (n11, p12, b14, ())
noncomputable def laws_FnLongestWait_l0 (x : Int × Int × Int × (List (List Int)) × Unit) : Option ((Int × Int × Int × (List (List Int)) × Unit) ⊕ ((Int × Int × (List (List Int)) × Unit) ⊕ (Bool × Unit))) :=
  laws_FnLongestWait_l0K x.1 x.2.1 x.2.2.1 x.2.2.2.1 (fun y => some (.inl y)) (fun a => some (.inr (.inl a))) (fun b => some (.inr (.inr b)))
theorem laws_FnLongestWait_l0_eq {γ : Type} (n11 : Int) (p12 : Int) (kq13 : Int) (b14 : (List (List Int))) (kn : Int × Int × Int × (List (List Int)) × Unit → Option γ) (kx : Int × Int × (List (List Int)) × Unit → Option γ) (kr : Bool × Unit → Option γ) : laws_FnLongestWait_l0K n11 p12 kq13 b14 kn kx kr = (laws_FnLongestWait_l0 (n11, p12, kq13, b14, ())).bind fun r => sum3K r kn kx kr := by
  simp only [laws_FnLongestWait_l0K, laws_FnLongestWait_l0, B0, B1, B2, B3, B4, B5, B6, B7, B8, C1, C2, C3, C4, C5]
noncomputable def laws_FnLongestWaitK {γ : Type} (code1 : (List Int)) (k : Bool → Option γ) : Option γ :=
 bif decide ((code1.length : Int) > (1048576 : Int)) then
  k true
 else
 (spec_DrawLongestWait code1).bind fun r2 =>
 (impl_LongestWait (((r2.2.2.drop r2.1).take r2.2.1), ())).bind fun r3 =>
 (spec_LongestWait (((r2.2.2.drop r2.1).take r2.2.1), ())).bind fun r4 =>
 bif (r3 != r4) then
  k false
 else
 bif decide (r3 ≤ (0 : Int)) then
  bif (r3 == (0 : Int)) then
   (impl_ReadyNext (((r2.2.2.drop r2.1).take r2.2.1), ())).bind fun r5 =>
   bif (!(r5 == (-1 : Int))) then
    bif (r3 == (-1 : Int)) then
     (laws_alive).bind fun r6 =>
     k r6
    else
    k false
   else
   (laws_alive).bind fun r7 =>
   k r7
  else
  bif (r3 == (-1 : Int)) then
   (laws_alive).bind fun r8 =>
   k r8
  else
  k false
 else
 (impl_ReadyNext (((r2.2.2.drop r2.1).take r2.2.1), ())).bind fun r9 =>
 (impl_ReadyPrio (((r2.2.2.drop r2.1).take r2.2.1), ()) r9).bind fun r10 =>
 bif (!decide (r10 < (0 : Int))) then
  bif decide (r10 ≥ (((r2.2.2.drop r2.1).take r2.2.1).length : Int)) then
   k false
  else
  (loopF laws_FnLongestWait_l0 (r3, r10, (0 : Int), ((r2.2.2.drop r2.1).take r2.2.1), ())).bind fun q => endK q (fun z22 =>
   nnK z22.2.1 fun i24 =>
   getK z22.2.2.1 i24 fun v25 =>
   k (z22.1 == (v25.length : Int))) (fun z23 =>
   k z23.1)
 else
 k false
noncomputable def laws_FnLongestWait (code1 : (List Int)) : Option (Bool) :=
  laws_FnLongestWaitK code1 some
theorem laws_FnLongestWait_eq {γ : Type} (code1 : (List Int)) (k : Bool → Option γ) : laws_FnLongestWaitK code1 k = (laws_FnLongestWait code1).bind k := by
  simp only [laws_FnLongestWaitK, laws_FnLongestWait, B0, B1, B2, B3, B4, B5, B6, B7, B8, C1, C2, C3, C4, C5]

/-! loop.example/capkernel/spec.CallsValid -/
noncomputable def spec_CallsValid_l2K {γ : Type} (list7 : (List Int)) (kq8 : Int) (j9 : Int) (kn : (List Int) × Int × Int × Unit → Option γ) (kx : (List Int) × Int × Unit → Option γ) (kr : Bool × Unit → Option γ) : Option γ :=
 bif decide (j9 < kq8) then
  nnK j9 fun i10 =>
  getK list7 i10 fun v11 =>
  nnK kq8 fun i12 =>
  getK list7 i12 fun v13 =>
  bif (v11 == v13) then
   kr (false, ())
  else
  kn (list7, kq8, (IntKind.wrap .i64 (j9 + (1 : Int))), ())
 else
 kx (list7, kq8, ())
noncomputable def spec_CallsValid_l2 (x : (List Int) × Int × Int × Unit) : Option (((List Int) × Int × Int × Unit) ⊕ (((List Int) × Int × Unit) ⊕ (Bool × Unit))) :=
  spec_CallsValid_l2K x.1 x.2.1 x.2.2.1 (fun y => some (.inl y)) (fun a => some (.inr (.inl a))) (fun b => some (.inr (.inr b)))
theorem spec_CallsValid_l2_eq {γ : Type} (list7 : (List Int)) (kq8 : Int) (j9 : Int) (kn : (List Int) × Int × Int × Unit → Option γ) (kx : (List Int) × Int × Unit → Option γ) (kr : Bool × Unit → Option γ) : spec_CallsValid_l2K list7 kq8 j9 kn kx kr = (spec_CallsValid_l2 (list7, kq8, j9, ())).bind fun r => sum3K r kn kx kr := by
  simp only [spec_CallsValid_l2K, spec_CallsValid_l2, B0, B1, B2, B3, B4, B5, B6, B7, B8, C1, C2, C3, C4, C5]
noncomputable def spec_CallsValid_l0K {γ : Type} (list2 : (List Int)) (kq3 : Int) (kn : (List Int) × Int × Unit → Option γ) (kx : (List Int) × Unit → Option γ) (kr : Bool × Unit → Option γ) : Option γ :=
 bif decide (kq3 < (list2.length : Int)) then
  nnK kq3 fun i4 =>
  getK list2 i4 fun v5 =>
  (spec_l1In v5 (0 : Int) (15 : Int)).bind fun r6 =>
  bif (!r6) then
   kr (false, ())
  else
  (loopF spec_CallsValid_l2 (list2, kq3, (0 : Int), ())).bind fun q => endK q (fun z14 =>
   kn (z14.1, (IntKind.wrap .i64 (z14.2.1 + (1 : Int))), ())) (fun z15 =>
   kr (z15.1, ()))
 else
 kx (list2, ())
noncomputable def spec_CallsValid_l0 (x : (List Int) × Int × Unit) : Option (((List Int) × Int × Unit) ⊕ (((List Int) × Unit) ⊕ (Bool × Unit))) :=
  spec_CallsValid_l0K x.1 x.2.1 (fun y => some (.inl y)) (fun a => some (.inr (.inl a))) (fun b => some (.inr (.inr b)))
theorem spec_CallsValid_l0_eq {γ : Type} (list2 : (List Int)) (kq3 : Int) (kn : (List Int) × Int × Unit → Option γ) (kx : (List Int) × Unit → Option γ) (kr : Bool × Unit → Option γ) : spec_CallsValid_l0K list2 kq3 kn kx kr = (spec_CallsValid_l0 (list2, kq3, ())).bind fun r => sum3K r kn kx kr := by
  simp only [spec_CallsValid_l0K, spec_CallsValid_l0, B0, B1, B2, B3, B4, B5, B6, B7, B8, C1, C2, C3, C4, C5]
noncomputable def spec_CallsValidK {γ : Type} (list1 : (List Int)) (k : Bool → Option γ) : Option γ :=
 (loopF spec_CallsValid_l0 (list1, (0 : Int), ())).bind fun q => endK q (fun z16 =>
  k (decide ((z16.1.length : Int) ≤ (16 : Int)))) (fun z17 =>
  k z17.1)
noncomputable def spec_CallsValid (list1 : (List Int)) : Option (Bool) :=
  spec_CallsValidK list1 some
theorem spec_CallsValid_eq {γ : Type} (list1 : (List Int)) (k : Bool → Option γ) : spec_CallsValidK list1 k = (spec_CallsValid list1).bind k := by
  simp only [spec_CallsValidK, spec_CallsValid, B0, B1, B2, B3, B4, B5, B6, B7, B8, C1, C2, C3, C4, C5]

/-! loop.example/capkernel/spec.PushCall -/
noncomputable def spec_PushCall_l0K {γ : Type} (list5 : (List Int)) (caller6 : Int) (kq7 : Int) (b8 : (List Int)) (kn : (List Int) × Int × Int × (List Int) × Unit → Option γ) (kx : Int × (List Int) × Unit → Option γ) (kr : Bool × (List Int) × Unit → Option γ) : Option γ :=
 bif decide (kq7 < (list5.length : Int)) then
  nnK kq7 fun i9 =>
  getK list5 i9 fun v10 =>
  bif (v10 == caller6) then
   kr (false, b8, ())
  else
  kn (list5, caller6, (IntKind.wrap .i64 (kq7 + (1 : Int))), b8, ())
 else
 kx (caller6, b8, ())
noncomputable def spec_PushCall_l0 (x : (List Int) × Int × Int × (List Int) × Unit) : Option (((List Int) × Int × Int × (List Int) × Unit) ⊕ ((Int × (List Int) × Unit) ⊕ (Bool × (List Int) × Unit))) :=
  spec_PushCall_l0K x.1 x.2.1 x.2.2.1 x.2.2.2.1 (fun y => some (.inl y)) (fun a => some (.inr (.inl a))) (fun b => some (.inr (.inr b)))
theorem spec_PushCall_l0_eq {γ : Type} (list5 : (List Int)) (caller6 : Int) (kq7 : Int) (b8 : (List Int)) (kn : (List Int) × Int × Int × (List Int) × Unit → Option γ) (kx : Int × (List Int) × Unit → Option γ) (kr : Bool × (List Int) × Unit → Option γ) : spec_PushCall_l0K list5 caller6 kq7 b8 kn kx kr = (spec_PushCall_l0 (list5, caller6, kq7, b8, ())).bind fun r => sum3K r kn kx kr := by
  simp only [spec_PushCall_l0K, spec_PushCall_l0, B0, B1, B2, B3, B4, B5, B6, B7, B8, C1, C2, C3, C4, C5]
noncomputable def spec_PushCallK {γ : Type} (list1 : (List Int)) (caller2 : Int) (k : Bool × (List Int) → Option γ) : Option γ :=
 (spec_CallsValid list1).bind fun r3 =>
 bif (!(!r3)) then
  (spec_l1In caller2 (0 : Int) (15 : Int)).bind fun r4 =>
  bif (!r4) then
   k (false, [])
  else
  chk (list1.length ≤ bigRow) <|
  (loopF spec_PushCall_l0 (list1, caller2, (0 : Int), list1, ())).bind fun q => endK q (fun z11 =>
   chk ((z11.2.1.length + 1) ≤ bigRow) <|
   k (true, (z11.2.1 ++ [z11.1]))) (fun z12 =>
   k (z12.1, z12.2.1))
 else
 k (false, [])
noncomputable def spec_PushCall (list1 : (List Int)) (caller2 : Int) : Option (Bool × (List Int)) :=
  spec_PushCallK list1 caller2 some
theorem spec_PushCall_eq {γ : Type} (list1 : (List Int)) (caller2 : Int) (k : Bool × (List Int) → Option γ) : spec_PushCallK list1 caller2 k = (spec_PushCall list1 caller2).bind k := by
  simp only [spec_PushCallK, spec_PushCall, B0, B1, B2, B3, B4, B5, B6, B7, B8, C1, C2, C3, C4, C5]

/-! loop.example/capkernel/spec.l20Calls -/
noncomputable def spec_l20Calls_l0K {γ : Type} (n4 : Int) (kq5 : Int) (b6 : Dl20Rd) (b7 : (List Int)) (kn : Int × Int × Dl20Rd × (List Int) × Unit → Option γ) (kx : Int × Dl20Rd × (List Int) × Unit → Option γ) : Option γ :=
 bif decide (kq5 > (0 : Int)) then
  (spec_l20Rd_pick (16 : Int) b6).bind fun r8 =>
  (spec_PushCall b7 r8.1).bind fun r9 =>
  kn (n4, (IntKind.wrap .i64 (kq5 - (1 : Int))), r8.2, r9.2, ())
 else
 kx (n4, b6, b7, ())
noncomputable def spec_l20Calls_l0 (x : Int × Int × Dl20Rd × (List Int) × Unit) : Option ((Int × Int × Dl20Rd × (List Int) × Unit) ⊕ (Int × Dl20Rd × (List Int) × Unit)) :=
  spec_l20Calls_l0K x.1 x.2.1 x.2.2.1 x.2.2.2.1 (fun y => some (.inl y)) (fun a => some (.inr a))
theorem spec_l20Calls_l0_eq {γ : Type} (n4 : Int) (kq5 : Int) (b6 : Dl20Rd) (b7 : (List Int)) (kn : Int × Int × Dl20Rd × (List Int) × Unit → Option γ) (kx : Int × Dl20Rd × (List Int) × Unit → Option γ) : spec_l20Calls_l0K n4 kq5 b6 b7 kn kx = (spec_l20Calls_l0 (n4, kq5, b6, b7, ())).bind fun r => sum2K r kn kx := by
  simp only [spec_l20Calls_l0K, spec_l20Calls_l0, B0, B1, B2, B3, B4, B5, B6, B7, B8, C1, C2, C3, C4, C5]
noncomputable def spec_l20CallsK {γ : Type} (n1 : Int) (b2 : Dl20Rd) (k : Dl20Rd × (List Int) → Option γ) : Option γ :=
 (spec_l20Rd_pick (6 : Int) b2).bind fun r3 =>
 (loopF spec_l20Calls_l0 (n1, r3.1, r3.2, [], ())).bind fun z10 =>
 (spec_l20Rd_odd z10.1 z10.2.1).bind fun r11 =>
 bif r11.1 then
  (spec_l20Rd_pick (3 : Int) r11.2).bind fun r12 =>
  nnK r12.1 fun i13 =>
  getK [(-1 : Int), (16 : Int), (4 : Int)] i13 fun v14 =>
  chk ((z10.2.2.1.length + 2) ≤ bigRow) <|
  k (r12.2, (z10.2.2.1 ++ [v14, (4 : Int)]))
 else
 k (r11.2, z10.2.2.1)
noncomputable def spec_l20Calls (n1 : Int) (b2 : Dl20Rd) : Option (Dl20Rd × (List Int)) :=
  spec_l20CallsK n1 b2 some
theorem spec_l20Calls_eq {γ : Type} (n1 : Int) (b2 : Dl20Rd) (k : Dl20Rd × (List Int) → Option γ) : spec_l20CallsK n1 b2 k = (spec_l20Calls n1 b2).bind k := by
  simp only [spec_l20CallsK, spec_l20Calls, B0, B1, B2, B3, B4, B5, B6, B7, B8, C1, C2, C3, C4, C5]

/-! loop.example/capkernel/spec.DrawCallsValid -/
noncomputable def spec_DrawCallsValidK {γ : Type} (code1 : (List Int)) (k : (List Int) → Option γ) : Option γ :=
 (spec_l20Open code1).bind fun r2 =>
 (spec_l20Calls (2 : Int) r2).bind fun r3 =>
 k r3.2
noncomputable def spec_DrawCallsValid (code1 : (List Int)) : Option ((List Int)) :=
  spec_DrawCallsValidK code1 some
theorem spec_DrawCallsValid_eq {γ : Type} (code1 : (List Int)) (k : (List Int) → Option γ) : spec_DrawCallsValidK code1 k = (spec_DrawCallsValid code1).bind k := by
  simp only [spec_DrawCallsValidK, spec_DrawCallsValid, B0, B1, B2, B3, B4, B5, B6, B7, B8, C1, C2, C3, C4, C5]

/-! loop.example/capkernel/impl.CallsValid -/
noncomputable def impl_CallsValidK {γ : Type} (list1 : (List Int)) (k : Bool → Option γ) : Option γ :=
 bif decide ((list1.length : Int) ≤ (16 : Int)) then
  (impl_different list1).bind fun r2 =>
  k r2
 else
 k false
noncomputable def impl_CallsValid (list1 : (List Int)) : Option (Bool) :=
  impl_CallsValidK list1 some
theorem impl_CallsValid_eq {γ : Type} (list1 : (List Int)) (k : Bool → Option γ) : impl_CallsValidK list1 k = (impl_CallsValid list1).bind k := by
  simp only [impl_CallsValidK, impl_CallsValid, B0, B1, B2, B3, B4, B5, B6, B7, B8, C1, C2, C3, C4, C5]

/-! loop.example/capkernel/laws.FnQueueOrder -/
noncomputable def laws_FnQueueOrder_l0K {γ : Type} (more9 : (List Int)) (calls10 : (List Int)) (kq11 : Int) (b12 : (List (List Int))) (kn : (List Int) × (List Int) × Int × (List (List Int)) × Unit → Option γ) (kx : (List Int) × (List (List Int)) × Unit → Option γ) (kr : Bool × Unit → Option γ) : Option γ :=
 bif decide (kq11 < (calls10.length : Int)) then
  nnK kq11 fun i13 =>
  getK calls10 i13 fun v14 =>
  (impl_ReadyAdd (b12, ()) v14 (Int.tmod (more9.length : Int) (8 : Int))).bind fun r15 =>
  bif (!r15.1) then
   kr (false, ())
  else
  kn (more9, calls10, (IntKind.wrap .i64 (kq11 + (1 : Int))), r15.2, ())
 else
 kx (calls10, b12, ())
noncomputable def laws_FnQueueOrder_l0 (x : (List Int) × (List Int) × Int × (List (List Int)) × Unit) : Option (((List Int) × (List Int) × Int × (List (List Int)) × Unit) ⊕ (((List Int) × (List (List Int)) × Unit) ⊕ (Bool × Unit))) :=
  laws_FnQueueOrder_l0K x.1 x.2.1 x.2.2.1 x.2.2.2.1 (fun y => some (.inl y)) (fun a => some (.inr (.inl a))) (fun b => some (.inr (.inr b)))
theorem laws_FnQueueOrder_l0_eq {γ : Type} (more9 : (List Int)) (calls10 : (List Int)) (kq11 : Int) (b12 : (List (List Int))) (kn : (List Int) × (List Int) × Int × (List (List Int)) × Unit → Option γ) (kx : (List Int) × (List (List Int)) × Unit → Option γ) (kr : Bool × Unit → Option γ) : laws_FnQueueOrder_l0K more9 calls10 kq11 b12 kn kx kr = (laws_FnQueueOrder_l0 (more9, calls10, kq11, b12, ())).bind fun r => sum3K r kn kx kr := by
  simp only [laws_FnQueueOrder_l0K, laws_FnQueueOrder_l0, B0, B1, B2, B3, B4, B5, B6, B7, B8, C1, C2, C3, C4, C5]
noncomputable def laws_FnQueueOrderK {γ : Type} (code1 : (List Int)) (more2 : (List Int)) (k : Bool → Option γ) : Option γ :=
 bif (!decide ((code1.length : Int) > (1048576 : Int))) then
  bif decide ((more2.length : Int) > (1048576 : Int)) then
   k true
  else
  (spec_DrawCallsValid code1).bind fun r3 =>
  (impl_CallsValid r3).bind fun r4 =>
  (spec_CallsValid r3).bind fun r5 =>
  bif (!(r4 == r5)) then
   k false
  else
  (spec_CallsValid r3).bind fun r6 =>
  bif (!(!r6)) then
   bif ((r3.length : Int) == (0 : Int)) then
    (laws_alive).bind fun r7 =>
    k r7
   else
   (impl_NewQueues).bind fun r8 =>
   (loopF laws_FnQueueOrder_l0 (more2, r3, (0 : Int), r8, ())).bind fun q => endK q (fun z16 =>
    (impl_RunTurns (z16.2.1, ()) (IntKind.wrap .i64 ((2 : Int) * (z16.1.length : Int)))).bind fun r18 =>
    chk (z16.1.length ≤ bigRow) <|
    chk ((z16.1.length + z16.1.length) ≤ bigRow) <|
    (laws_sameInts r18 (z16.1 ++ z16.1)).bind fun r19 =>
    bif r19 then
     (spec_RunTurns (z16.2.1, ()) (IntKind.wrap .i64 ((2 : Int) * (z16.1.length : Int)))).bind fun r20 =>
     (laws_sameInts r18 r20).bind fun r21 =>
     k r21
    else
    k false) (fun z17 =>
    k z17.1)
  else
  (laws_alive).bind fun r22 =>
  k r22
 else
 k true
noncomputable def laws_FnQueueOrder (code1 : (List Int)) (more2 : (List Int)) : Option (Bool) :=
  laws_FnQueueOrderK code1 more2 some
theorem laws_FnQueueOrder_eq {γ : Type} (code1 : (List Int)) (more2 : (List Int)) (k : Bool → Option γ) : laws_FnQueueOrderK code1 more2 k = (laws_FnQueueOrder code1 more2).bind k := by
  simp only [laws_FnQueueOrderK, laws_FnQueueOrder, B0, B1, B2, B3, B4, B5, B6, B7, B8, C1, C2, C3, C4, C5]

/-! loop.example/capkernel/spec.DrawRunTurns -/
noncomputable def spec_DrawRunTurnsK {γ : Type} (code1 : (List Int)) (k : Nat × Nat × Int × (List (List Int)) → Option γ) : Option γ :=
 (spec_l20Open code1).bind fun r2 =>
 (spec_l20Queues (12 : Int) r2).bind fun r3 =>
 (spec_l20Rd_pick (30 : Int) r3.2.2.1).bind fun r4 =>
 (spec_l20Rd_pick (7 : Int) r4.2).bind fun r5 =>
 nnK r5.1 fun i6 =>
 getK [(0 : Int), (0 : Int), (0 : Int), (0 : Int), (1 : Int), (2 : Int), (3 : Int)] i6 fun v7 =>
 nnK v7 fun i8 =>
 getK [r4.1, (200 : Int), (-1 : Int), (201 : Int)] i8 fun v9 =>
 k (r3.1, r3.2.1, v9, r3.2.2.2)
noncomputable def spec_DrawRunTurns (code1 : (List Int)) : Option (Nat × Nat × Int × (List (List Int))) :=
  spec_DrawRunTurnsK code1 some
theorem spec_DrawRunTurns_eq {γ : Type} (code1 : (List Int)) (k : Nat × Nat × Int × (List (List Int)) → Option γ) : spec_DrawRunTurnsK code1 k = (spec_DrawRunTurns code1).bind k := by
  simp only [spec_DrawRunTurnsK, spec_DrawRunTurns, B0, B1, B2, B3, B4, B5, B6, B7, B8, C1, C2, C3, C4, C5]

/-! loop.example/capkernel/laws.FnRunTurns -/
noncomputable def laws_FnRunTurns_l0K {γ : Type} (turns8 : Int) (list9 : (List Int)) (period10 : Int) (kq11 : Int) (b12 : (List (List Int))) (kn : Int × (List Int) × Int × Int × (List (List Int)) × Unit → Option γ) (kx : Int × (List Int) × (List (List Int)) × Unit → Option γ) (kr : Bool × Unit → Option γ) : Option γ :=
 bif decide (kq11 < (list9.length : Int)) then
  nnK kq11 fun i13 =>
  getK list9 i13 fun v14 =>
  (impl_ReadyPrio (b12, ()) v14).bind fun r15 =>
  getK list9 0 fun v16 =>
  (impl_ReadyPrio (b12, ()) v16).bind fun r17 =>
  bif (!(r15 != r17)) then
   bif decide (period10 > (0 : Int)) then
    bif decide (kq11 ≥ period10) then
     nnK kq11 fun i18 =>
     getK list9 i18 fun v19 =>
     nnK (IntKind.wrap .i64 (kq11 - period10)) fun i20 =>
     getK list9 i20 fun v21 =>
     bif (v19 != v21) then
      kr (false, ())
     else
     kn (turns8, list9, period10, (IntKind.wrap .i64 (kq11 + (1 : Int))), b12, ())
    else
    kn (turns8, list9, period10, (IntKind.wrap .i64 (kq11 + (1 : Int))), b12, ())
   else
   kn (turns8, list9, period10, (IntKind.wrap .i64 (kq11 + (1 : Int))), b12, ())
  else
  kr (false, ())
 else
 kx (turns8, list9, b12, ())
noncomputable def laws_FnRunTurns_l0 (x : Int × (List Int) × Int × Int × (List (List Int)) × Unit) : Option ((Int × (List Int) × Int × Int × (List (List Int)) × Unit) ⊕ ((Int × (List Int) × (List (List Int)) × Unit) ⊕ (Bool × Unit))) :=
  laws_FnRunTurns_l0K x.1 x.2.1 x.2.2.1 x.2.2.2.1 x.2.2.2.2.1 (fun y => some (.inl y)) (fun a => some (.inr (.inl a))) (fun b => some (.inr (.inr b)))
theorem laws_FnRunTurns_l0_eq {γ : Type} (turns8 : Int) (list9 : (List Int)) (period10 : Int) (kq11 : Int) (b12 : (List (List Int))) (kn : Int × (List Int) × Int × Int × (List (List Int)) × Unit → Option γ) (kx : Int × (List Int) × (List (List Int)) × Unit → Option γ) (kr : Bool × Unit → Option γ) : laws_FnRunTurns_l0K turns8 list9 period10 kq11 b12 kn kx kr = (laws_FnRunTurns_l0 (turns8, list9, period10, kq11, b12, ())).bind fun r => sum3K r kn kx kr := by
  simp only [laws_FnRunTurns_l0K, laws_FnRunTurns_l0, B0, B1, B2, B3, B4, B5, B6, B7, B8, C1, C2, C3, C4, C5]
noncomputable def laws_FnRunTurnsK {γ : Type} (code1 : (List Int)) (k : Bool → Option γ) : Option γ :=
 bif decide ((code1.length : Int) > (1048576 : Int)) then
  k true
 else
 (spec_DrawRunTurns code1).bind fun r2 =>
 (impl_RunTurns (((r2.2.2.2.drop r2.1).take r2.2.1), ()) r2.2.2.1).bind fun r3 =>
 (spec_RunTurns (((r2.2.2.2.drop r2.1).take r2.2.1), ()) r2.2.2.1).bind fun r4 =>
 (laws_sameInts r3 r4).bind fun r5 =>
 bif (!r5) then
  k false
 else
 bif ((r3.length : Int) == (0 : Int)) then
  (laws_alive).bind fun r6 =>
  k r6
 else
 (impl_LongestWait (((r2.2.2.2.drop r2.1).take r2.2.1), ())).bind fun r7 =>
 (loopF laws_FnRunTurns_l0 (r2.2.2.1, r3, r7, (0 : Int), ((r2.2.2.2.drop r2.1).take r2.2.1), ())).bind fun q => endK q (fun z22 =>
  bif ((z22.2.1.length : Int) == z22.1) then
   getK z22.2.1 0 fun v24 =>
   (impl_ReadyNext (z22.2.2.1, ())).bind fun r25 =>
   k (v24 == r25)
  else
  k false) (fun z23 =>
  k z23.1)
noncomputable def laws_FnRunTurns (code1 : (List Int)) : Option (Bool) :=
  laws_FnRunTurnsK code1 some
theorem laws_FnRunTurns_eq {γ : Type} (code1 : (List Int)) (k : Bool → Option γ) : laws_FnRunTurnsK code1 k = (laws_FnRunTurns code1).bind k := by
  simp only [laws_FnRunTurnsK, laws_FnRunTurns, B0, B1, B2, B3, B4, B5, B6, B7, B8, C1, C2, C3, C4, C5]

/-! loop.example/capkernel/spec.DrawReadyPrio -/
noncomputable def spec_DrawReadyPrioK {γ : Type} (code1 : (List Int)) (k : Nat × Nat × Int × (List (List Int)) → Option γ) : Option γ :=
 (spec_l20Open code1).bind fun r2 =>
 (spec_l20Queues (12 : Int) r2).bind fun r3 =>
 (spec_l20Rd_pick (18 : Int) r3.2.2.1).bind fun r4 =>
 k (r3.1, r3.2.1, (IntKind.wrap .i64 (r4.1 - (1 : Int))), r3.2.2.2)
noncomputable def spec_DrawReadyPrio (code1 : (List Int)) : Option (Nat × Nat × Int × (List (List Int))) :=
  spec_DrawReadyPrioK code1 some
theorem spec_DrawReadyPrio_eq {γ : Type} (code1 : (List Int)) (k : Nat × Nat × Int × (List (List Int)) → Option γ) : spec_DrawReadyPrioK code1 k = (spec_DrawReadyPrio code1).bind k := by
  simp only [spec_DrawReadyPrioK, spec_DrawReadyPrio, B0, B1, B2, B3, B4, B5, B6, B7, B8, C1, C2, C3, C4, C5]

/-! loop.example/capkernel/spec.DrawReadyRemove -/
noncomputable def spec_DrawReadyRemoveK {γ : Type} (code1 : (List Int)) (k : Nat × Nat × Int × (List (List Int)) → Option γ) : Option γ :=
 (spec_DrawReadyPrio code1).bind fun r2 =>
 k (r2.1, r2.2.1, r2.2.2.1, r2.2.2.2)
noncomputable def spec_DrawReadyRemove (code1 : (List Int)) : Option (Nat × Nat × Int × (List (List Int))) :=
  spec_DrawReadyRemoveK code1 some
theorem spec_DrawReadyRemove_eq {γ : Type} (code1 : (List Int)) (k : Nat × Nat × Int × (List (List Int)) → Option γ) : spec_DrawReadyRemoveK code1 k = (spec_DrawReadyRemove code1).bind k := by
  simp only [spec_DrawReadyRemoveK, spec_DrawReadyRemove, B0, B1, B2, B3, B4, B5, B6, B7, B8, C1, C2, C3, C4, C5]

/-! loop.example/capkernel/laws.FnReadyRemove -/
noncomputable def laws_FnReadyRemove_l0K {γ : Type} (n10 : Int) (again11 : Bool) (before12 : Int) (after13 : Int) (p14 : Int) (b15 : (List (List Int))) (b16 : (List (List Int))) (kn : Int × Bool × Int × Int × Int × (List (List Int)) × (List (List Int)) × Unit → Option γ) (kx : Int × Bool × Int × Int × (List (List Int)) × Unit → Option γ) : Option γ :=
 bif decide (p14 < (b15.length : Int)) then
  nnK p14 fun i17 =>
  getK b15 i17 fun v18 =>
  nnK p14 fun i19 =>
  getK b16 i19 fun v20 =>
  kn (n10, again11, (IntKind.wrap .i64 (before12 + (v18.length : Int))), (IntKind.wrap .i64 (after13 + (v20.length : Int))), (IntKind.wrap .i64 (p14 + (1 : Int))), b15, b16, ())
 else
 kx (n10, again11, before12, after13, b16, ())
noncomputable def laws_FnReadyRemove_l0 (x : Int × Bool × Int × Int × Int × (List (List Int)) × (List (List Int)) × Unit) : Option ((Int × Bool × Int × Int × Int × (List (List Int)) × (List (List Int)) × Unit) ⊕ (Int × Bool × Int × Int × (List (List Int)) × Unit)) :=
  laws_FnReadyRemove_l0K x.1 x.2.1 x.2.2.1 x.2.2.2.1 x.2.2.2.2.1 x.2.2.2.2.2.1 x.2.2.2.2.2.2.1 (fun y => some (.inl y)) (fun a => some (.inr a))
theorem laws_FnReadyRemove_l0_eq {γ : Type} (n10 : Int) (again11 : Bool) (before12 : Int) (after13 : Int) (p14 : Int) (b15 : (List (List Int))) (b16 : (List (List Int))) (kn : Int × Bool × Int × Int × Int × (List (List Int)) × (List (List Int)) × Unit → Option γ) (kx : Int × Bool × Int × Int × (List (List Int)) × Unit → Option γ) : laws_FnReadyRemove_l0K n10 again11 before12 after13 p14 b15 b16 kn kx = (laws_FnReadyRemove_l0 (n10, again11, before12, after13, p14, b15, b16, ())).bind fun r => sum2K r kn kx := by
  simp only [laws_FnReadyRemove_l0K, laws_FnReadyRemove_l0, B0, B1, B2, B3, B4, B5, B6, B7, B8, C1, C2, C3, C4, C5]
noncomputable def laws_FnReadyRemoveK {γ : Type} (code1 : (List Int)) (k : Bool → Option γ) : Option γ :=
 bif decide ((code1.length : Int) > (1048576 : Int)) then
  k true
 else
 (spec_DrawReadyRemove code1).bind fun r2 =>
 (impl_ReadyRemove (((r2.2.2.2.drop r2.1).take r2.2.1), ()) r2.2.2.1).bind fun r3 =>
 (spec_ReadyRemove (((r2.2.2.2.drop r2.1).take r2.2.1), ()) r2.2.2.1).bind fun r4 =>
 (laws_sameQueues (r3.2, ()) (r4.2, ())).bind fun r5 =>
 bif (!(!r5)) then
  bif (!(r3.1 == r4.1)) then
   k false
  else
  bif (!r3.1) then
   bif (!((r3.2.length : Int) == (0 : Int))) then
    (laws_sameQueues (r3.2, ()) (((r2.2.2.2.drop r2.1).take r2.2.1), ())).bind fun r6 =>
    bif r6 then
     (laws_alive).bind fun r7 =>
     k r7
    else
    k false
   else
   (laws_alive).bind fun r8 =>
   k r8
  else
  (impl_ReadyRemove (r3.2, ()) r2.2.2.1).bind fun r9 =>
  (loopF laws_FnReadyRemove_l0 (r2.2.2.1, r9.1, (0 : Int), (0 : Int), (0 : Int), ((r2.2.2.2.drop r2.1).take r2.2.1), r3.2, ())).bind fun z21 =>
  (impl_QueuesValid (z21.2.2.2.2.1, ())).bind fun r22 =>
  bif r22 then
   (impl_ReadyPrio (z21.2.2.2.2.1, ()) z21.1).bind fun r23 =>
   bif (r23 == (-1 : Int)) then
    bif (!z21.2.1) then
     bif (z21.2.2.2.1 == (IntKind.wrap .i64 (z21.2.2.1 - (1 : Int)))) then
      (impl_ReadyNext (z21.2.2.2.2.1, ())).bind fun r24 =>
      k (r24 != z21.1)
     else
     k false
    else
    k false
   else
   k false
  else
  k false
 else
 k false
noncomputable def laws_FnReadyRemove (code1 : (List Int)) : Option (Bool) :=
  laws_FnReadyRemoveK code1 some
theorem laws_FnReadyRemove_eq {γ : Type} (code1 : (List Int)) (k : Bool → Option γ) : laws_FnReadyRemoveK code1 k = (laws_FnReadyRemove code1).bind k := by
  simp only [laws_FnReadyRemoveK, laws_FnReadyRemove, B0, B1, B2, B3, B4, B5, B6, B7, B8, C1, C2, C3, C4, C5]

/-! loop.example/capkernel/spec.DrawTurnsOf -/
noncomputable def spec_DrawTurnsOfK {γ : Type} (code1 : (List Int)) (k : Nat × Nat × Int × Int × (List (List Int)) → Option γ) : Option γ :=
 (spec_l20Open code1).bind fun r2 =>
 (spec_l20Queues (12 : Int) r2).bind fun r3 =>
 (spec_ReadyNext (((r3.2.2.2.drop r3.1).take r3.2.1), ())).bind fun r4 =>
 (spec_l20Rd_odd (3 : Int) r3.2.2.1).bind fun r5 =>
 bif r5.1 then
  (spec_l20Rd_pick (17 : Int) r5.2).bind fun r6 =>
  (spec_l20Rd_pick (30 : Int) r6.2).bind fun r7 =>
  (spec_l20Rd_pick (14 : Int) r7.2).bind fun r8 =>
  nnK (IntKind.wrap .i64 (Int.tdiv r8.1 (13 : Int))) fun i9 =>
  getK [r7.1, (-1 : Int)] i9 fun v10 =>
  k (r3.1, r3.2.1, (IntKind.wrap .i64 (r6.1 - (1 : Int))), v10, r3.2.2.2)
 else
 (spec_l20Rd_pick (30 : Int) r5.2).bind fun r11 =>
 (spec_l20Rd_pick (14 : Int) r11.2).bind fun r12 =>
 nnK (IntKind.wrap .i64 (Int.tdiv r12.1 (13 : Int))) fun i13 =>
 getK [r11.1, (-1 : Int)] i13 fun v14 =>
 k (r3.1, r3.2.1, r4, v14, r3.2.2.2)
noncomputable def spec_DrawTurnsOf (code1 : (List Int)) : Option (Nat × Nat × Int × Int × (List (List Int))) :=
  spec_DrawTurnsOfK code1 some
theorem spec_DrawTurnsOf_eq {γ : Type} (code1 : (List Int)) (k : Nat × Nat × Int × Int × (List (List Int)) → Option γ) : spec_DrawTurnsOfK code1 k = (spec_DrawTurnsOf code1).bind k := by
  simp only [spec_DrawTurnsOfK, spec_DrawTurnsOf, B0, B1, B2, B3, B4, B5, B6, B7, B8, C1, C2, C3, C4, C5]

/-! loop.example/capkernel/laws.FnTurnsOf -/
noncomputable def laws_FnTurnsOf_l0K {γ : Type} (turns7 : Int) (first8 : Int) (sum9 : Int) (kq10 : Int) (b11 : (List (List Int))) (kn : Int × Int × Int × Int × (List (List Int)) × Unit → Option γ) (kx : Int × Int × Unit → Option γ) (kr : Bool × Unit → Option γ) : Option γ :=
 bif decide (kq10 < (16 : Int)) then
  (impl_TurnsOf (b11, ()) kq10 turns7).bind fun r12 =>
  (impl_ReadyPrio (b11, ()) kq10).bind fun r13 =>
  (impl_ReadyPrio (b11, ()) first8).bind fun r14 =>
  bif (r13 == r14) then
   (impl_LongestWait (b11, ())).bind fun r15 =>
   chk (r15 ≠ 0) <|
   bif (!decide (r12 < (IntKind.wrap .i64 (Int.tdiv turns7 r15)))) then
    (impl_LongestWait (b11, ())).bind fun r16 =>
    chk (r16 ≠ 0) <|
    bif decide (r12 > (IntKind.wrap .i64 ((IntKind.wrap .i64 (Int.tdiv turns7 r16)) + (1 : Int)))) then
     kr (false, ())
    else
    kn (turns7, first8, (IntKind.wrap .i64 (sum9 + r12)), (IntKind.wrap .i64 (kq10 + (1 : Int))), b11, ())
   else
   kr (false, ())
  else
  bif (r12 != (0 : Int)) then
   kr (false, ())
  else
  kn (turns7, first8, (IntKind.wrap .i64 (sum9 + r12)), (IntKind.wrap .i64 (kq10 + (1 : Int))), b11, ())
 else
 kx (turns7, sum9, ())
noncomputable def laws_FnTurnsOf_l0 (x : Int × Int × Int × Int × (List (List Int)) × Unit) : Option ((Int × Int × Int × Int × (List (List Int)) × Unit) ⊕ ((Int × Int × Unit) ⊕ (Bool × Unit))) :=
  laws_FnTurnsOf_l0K x.1 x.2.1 x.2.2.1 x.2.2.2.1 x.2.2.2.2.1 (fun y => some (.inl y)) (fun a => some (.inr (.inl a))) (fun b => some (.inr (.inr b)))
theorem laws_FnTurnsOf_l0_eq {γ : Type} (turns7 : Int) (first8 : Int) (sum9 : Int) (kq10 : Int) (b11 : (List (List Int))) (kn : Int × Int × Int × Int × (List (List Int)) × Unit → Option γ) (kx : Int × Int × Unit → Option γ) (kr : Bool × Unit → Option γ) : laws_FnTurnsOf_l0K turns7 first8 sum9 kq10 b11 kn kx kr = (laws_FnTurnsOf_l0 (turns7, first8, sum9, kq10, b11, ())).bind fun r => sum3K r kn kx kr := by
  simp only [laws_FnTurnsOf_l0K, laws_FnTurnsOf_l0, B0, B1, B2, B3, B4, B5, B6, B7, B8, C1, C2, C3, C4, C5]
noncomputable def laws_FnTurnsOfK {γ : Type} (code1 : (List Int)) (k : Bool → Option γ) : Option γ :=
 bif decide ((code1.length : Int) > (1048576 : Int)) then
  k true
 else
 (spec_DrawTurnsOf code1).bind fun r2 =>
 (impl_TurnsOf (((r2.2.2.2.2.drop r2.1).take r2.2.1), ()) r2.2.2.1 r2.2.2.2.1).bind fun r3 =>
 (spec_TurnsOf (((r2.2.2.2.2.drop r2.1).take r2.2.1), ()) r2.2.2.1 r2.2.2.2.1).bind fun r4 =>
 bif (r3 != r4) then
  k false
 else
 bif decide (r3 < (0 : Int)) then
  bif (r3 == (-1 : Int)) then
   (laws_alive).bind fun r5 =>
   k r5
  else
  k false
 else
 (impl_ReadyNext (((r2.2.2.2.2.drop r2.1).take r2.2.1), ())).bind fun r6 =>
 bif decide (r6 < (0 : Int)) then
  k (r3 == (0 : Int))
 else
 (loopF laws_FnTurnsOf_l0 (r2.2.2.2.1, r6, (0 : Int), (0 : Int), ((r2.2.2.2.2.drop r2.1).take r2.2.1), ())).bind fun q => endK q (fun z17 =>
  k (z17.2.1 == z17.1)) (fun z18 =>
  k z18.1)
noncomputable def laws_FnTurnsOf (code1 : (List Int)) : Option (Bool) :=
  laws_FnTurnsOfK code1 some
theorem laws_FnTurnsOf_eq {γ : Type} (code1 : (List Int)) (k : Bool → Option γ) : laws_FnTurnsOfK code1 k = (laws_FnTurnsOf code1).bind k := by
  simp only [laws_FnTurnsOfK, laws_FnTurnsOf, B0, B1, B2, B3, B4, B5, B6, B7, B8, C1, C2, C3, C4, C5]

end Go.Ev
