/-
  What the functions of the program compute, as functions of plain data; printed by a program of the prover.
-/
import Derived.Test.YtmflmnknhlippaaEv3
namespace Go.Ev
set_option linter.unusedVariables false
set_option linter.unusedSimpArgs false
set_option maxRecDepth 100000
abbrev I : Ty := .int .i64
abbrev DName : Type := ByteArray × Int × Int × Unit
abbrev tName : Ty := .cons .str (.cons I (.cons I (.nil)))
/-! loop.example/capkernel/laws.szName -/
noncomputable def laws_szNameK {γ : Type} (a1 : DName) (left2 : Int) (k : Int → Option γ) : Option γ :=
  bif decide ((IntKind.wrap .i64 (left2 - (a1.1.size : Int))) < (0 : Int)) then
    k (-1 : Int)
  else
  k (IntKind.wrap .i64 (left2 - (a1.1.size : Int)))
noncomputable def laws_szName (a1 : DName) (left2 : Int) : Option (Int) :=
  laws_szNameK a1 left2 some
theorem laws_szName_eq {γ : Type} (a1 : DName) (left2 : Int) (k : Int → Option γ) : laws_szNameK a1 left2 k = (laws_szName a1 left2).bind k := by
  simp only [laws_szNameK, laws_szName, cond_bind', chk_bind', nnK_bind', getK_bind', getBK_bind', endK_bind', bind_bind', some_bind', none_bind', sum3K_1, sum3K_2, sum3K_3, sum2K_1, sum2K_2]

/-! loop.example/capkernel/laws.szNameS -/
noncomputable def laws_szNameS_l0K {γ : Type} (a3 : (List DName)) (left4 : Int) (i5 : Int) (kn : (List DName) × Int × Int × Unit → Option γ) (kx : Int × Unit → Option γ) (kr : Int × Unit → Option γ) : Option γ :=
  bif decide (i5 < (a3.length : Int)) then
    nnK i5 fun i6 =>
    getK a3 i6 fun v7 =>
    (laws_szName v7 left4).bind fun r8 =>
    bif decide (r8 < (0 : Int)) then
      kr ((-1 : Int), ())
    else
    kn (a3, r8, (IntKind.wrap .i64 (i5 + (1 : Int))), ())
  else
  kx (left4, ())
noncomputable def laws_szNameS_l0 (x : (List DName) × Int × Int × Unit) : Option (((List DName) × Int × Int × Unit) ⊕ ((Int × Unit) ⊕ (Int × Unit))) :=
  laws_szNameS_l0K x.1 x.2.1 x.2.2.1 (fun y => some (.inl y)) (fun a => some (.inr (.inl a))) (fun b => some (.inr (.inr b)))
theorem laws_szNameS_l0_eq {γ : Type} (a3 : (List DName)) (left4 : Int) (i5 : Int) (kn : (List DName) × Int × Int × Unit → Option γ) (kx : Int × Unit → Option γ) (kr : Int × Unit → Option γ) : laws_szNameS_l0K a3 left4 i5 kn kx kr = (laws_szNameS_l0 (a3, left4, i5, ())).bind fun r => sum3K r kn kx kr := by
  simp only [laws_szNameS_l0K, laws_szNameS_l0, cond_bind', chk_bind', nnK_bind', getK_bind', getBK_bind', endK_bind', bind_bind', some_bind', none_bind', sum3K_1, sum3K_2, sum3K_3, sum2K_1, sum2K_2]
noncomputable def laws_szNameSK {γ : Type} (a1 : (List DName)) (left2 : Int) (k : Int → Option γ) : Option γ :=
  bif decide ((IntKind.wrap .i64 (left2 - (a1.length : Int))) < (0 : Int)) then
    k (-1 : Int)
  else
  (loopF laws_szNameS_l0 (a1, (IntKind.wrap .i64 (left2 - (a1.length : Int))), (0 : Int), ())).bind fun q => endK q (fun z9 =>
    k z9.1) (fun z10 =>
    k z10.1)
noncomputable def laws_szNameS (a1 : (List DName)) (left2 : Int) : Option (Int) :=
  laws_szNameSK a1 left2 some
theorem laws_szNameS_eq {γ : Type} (a1 : (List DName)) (left2 : Int) (k : Int → Option γ) : laws_szNameSK a1 left2 k = (laws_szNameS a1 left2).bind k := by
  simp only [laws_szNameSK, laws_szNameS, cond_bind', chk_bind', nnK_bind', getK_bind', getBK_bind', endK_bind', bind_bind', some_bind', none_bind', sum3K_1, sum3K_2, sum3K_3, sum2K_1, sum2K_2]

/-! loop.example/capkernel/laws.toName -/
noncomputable def laws_toNameK {γ : Type} (a1 : DName) (k : DName → Option γ) : Option γ :=
  k (a1.1, a1.2.1, a1.2.2.1, ())
noncomputable def laws_toName (a1 : DName) : Option (DName) :=
  laws_toNameK a1 some
theorem laws_toName_eq {γ : Type} (a1 : DName) (k : DName → Option γ) : laws_toNameK a1 k = (laws_toName a1).bind k := by
  simp only [laws_toNameK, laws_toName, cond_bind', chk_bind', nnK_bind', getK_bind', getBK_bind', endK_bind', bind_bind', some_bind', none_bind', sum3K_1, sum3K_2, sum3K_3, sum2K_1, sum2K_2]

/-! loop.example/capkernel/laws.toNameS -/
noncomputable def laws_toNameS_l0K {γ : Type} (a2 : (List DName)) (i3 : Int) (b4 : (List DName)) (kn : (List DName) × Int × (List DName) × Unit → Option γ) (kx : (List DName) × Unit → Option γ) : Option γ :=
  bif decide (i3 < (a2.length : Int)) then
    nnK i3 fun i5 =>
    getK a2 i5 fun v6 =>
    (laws_toName v6).bind fun r7 =>
    nnK i3 fun i8 =>
    chk (i8 < b4.length) <|
    getK b4 i8 fun y9 =>
    kn (a2, (IntKind.wrap .i64 (i3 + (1 : Int))), (b4.set i8 (r7.1, r7.2.1, r7.2.2.1, ())), ())
  else
  kx (b4, ())
noncomputable def laws_toNameS_l0 (x : (List DName) × Int × (List DName) × Unit) : Option (((List DName) × Int × (List DName) × Unit) ⊕ ((List DName) × Unit)) :=
  laws_toNameS_l0K x.1 x.2.1 x.2.2.1 (fun y => some (.inl y)) (fun a => some (.inr a))
theorem laws_toNameS_l0_eq {γ : Type} (a2 : (List DName)) (i3 : Int) (b4 : (List DName)) (kn : (List DName) × Int × (List DName) × Unit → Option γ) (kx : (List DName) × Unit → Option γ) : laws_toNameS_l0K a2 i3 b4 kn kx = (laws_toNameS_l0 (a2, i3, b4, ())).bind fun r => sum2K r kn kx := by
  simp only [laws_toNameS_l0K, laws_toNameS_l0, cond_bind', chk_bind', nnK_bind', getK_bind', getBK_bind', endK_bind', bind_bind', some_bind', none_bind', sum3K_1, sum3K_2, sum3K_3, sum2K_1, sum2K_2]
noncomputable def laws_toNameSK {γ : Type} (a1 : (List DName)) (k : (List DName) → Option γ) : Option γ :=
  chk (a1.length ≤ bigRow) <|
  (loopF laws_toNameS_l0 (a1, (0 : Int), (List.replicate a1.length ((ByteArray.mk #[]), (0 : Int), (0 : Int), ())), ())).bind fun z10 =>
  k z10.1
noncomputable def laws_toNameS (a1 : (List DName)) : Option ((List DName)) :=
  laws_toNameSK a1 some
theorem laws_toNameS_eq {γ : Type} (a1 : (List DName)) (k : (List DName) → Option γ) : laws_toNameSK a1 k = (laws_toNameS a1).bind k := by
  simp only [laws_toNameSK, laws_toNameS, cond_bind', chk_bind', nnK_bind', getK_bind', getBK_bind', endK_bind', bind_bind', some_bind', none_bind', sum3K_1, sum3K_2, sum3K_3, sum2K_1, sum2K_2]

/-! loop.example/capkernel/spec.l1In -/
noncomputable def spec_l1InK {γ : Type} (n1 : Int) (lo2 : Int) (hi3 : Int) (k : Bool → Option γ) : Option γ :=
  bif decide (n1 ≥ lo2) then
    k (decide (n1 ≤ hi3))
  else
  k false
noncomputable def spec_l1In (n1 : Int) (lo2 : Int) (hi3 : Int) : Option (Bool) :=
  spec_l1InK n1 lo2 hi3 some
theorem spec_l1In_eq {γ : Type} (n1 : Int) (lo2 : Int) (hi3 : Int) (k : Bool → Option γ) : spec_l1InK n1 lo2 hi3 k = (spec_l1In n1 lo2 hi3).bind k := by
  simp only [spec_l1InK, spec_l1In, cond_bind', chk_bind', nnK_bind', getK_bind', getBK_bind', endK_bind', bind_bind', some_bind', none_bind', sum3K_1, sum3K_2, sum3K_3, sum2K_1, sum2K_2]

/-! loop.example/capkernel/spec.l22Text -/
noncomputable def spec_l22Text_l0K {γ : Type} (sq2 : ByteArray) (kq3 : Int) (kn : ByteArray × Int × Unit → Option γ) (kx : ByteArray × Unit → Option γ) (kr : Bool × Unit → Option γ) : Option γ :=
  bif decide (kq3 < (sq2.size : Int)) then
    nnK kq3 fun i5 =>
    getBK sq2 i5 fun c4 =>
    bif (!decide (((UInt8.toNat c4 : Nat) : Int) < (97 : Int))) then
      nnK kq3 fun i7 =>
      getBK sq2 i7 fun c6 =>
      bif decide (((UInt8.toNat c6 : Nat) : Int) > (122 : Int)) then
        kr (false, ())
      else
      kn (sq2, (IntKind.wrap .i64 (kq3 + (1 : Int))), ())
    else
    kr (false, ())
  else
  kx (sq2, ())
noncomputable def spec_l22Text_l0 (x : ByteArray × Int × Unit) : Option ((ByteArray × Int × Unit) ⊕ ((ByteArray × Unit) ⊕ (Bool × Unit))) :=
  spec_l22Text_l0K x.1 x.2.1 (fun y => some (.inl y)) (fun a => some (.inr (.inl a))) (fun b => some (.inr (.inr b)))
theorem spec_l22Text_l0_eq {γ : Type} (sq2 : ByteArray) (kq3 : Int) (kn : ByteArray × Int × Unit → Option γ) (kx : ByteArray × Unit → Option γ) (kr : Bool × Unit → Option γ) : spec_l22Text_l0K sq2 kq3 kn kx kr = (spec_l22Text_l0 (sq2, kq3, ())).bind fun r => sum3K r kn kx kr := by
  simp only [spec_l22Text_l0K, spec_l22Text_l0, cond_bind', chk_bind', nnK_bind', getK_bind', getBK_bind', endK_bind', bind_bind', some_bind', none_bind', sum3K_1, sum3K_2, sum3K_3, sum2K_1, sum2K_2]
noncomputable def spec_l22TextK {γ : Type} (sq1 : ByteArray) (k : Bool → Option γ) : Option γ :=
  (loopF spec_l22Text_l0 (sq1, (0 : Int), ())).bind fun q => endK q (fun z8 =>
    (spec_l1In (z8.1.size : Int) (1 : Int) (12 : Int)).bind fun r10 =>
    k r10) (fun z9 =>
    k z9.1)
noncomputable def spec_l22Text (sq1 : ByteArray) : Option (Bool) :=
  spec_l22TextK sq1 some
theorem spec_l22Text_eq {γ : Type} (sq1 : ByteArray) (k : Bool → Option γ) : spec_l22TextK sq1 k = (spec_l22Text sq1).bind k := by
  simp only [spec_l22TextK, spec_l22Text, cond_bind', chk_bind', nnK_bind', getK_bind', getBK_bind', endK_bind', bind_bind', some_bind', none_bind', sum3K_1, sum3K_2, sum3K_3, sum2K_1, sum2K_2]

/-! loop.example/capkernel/spec.NamesValid -/
noncomputable def spec_NamesValid_l0K {γ : Type} (list2 : (List DName)) (kq3 : Int) (kn : (List DName) × Int × Unit → Option γ) (kx : (List DName) × Unit → Option γ) (kr : Bool × Unit → Option γ) : Option γ :=
  bif decide (kq3 < (list2.length : Int)) then
    nnK kq3 fun i4 =>
    getK list2 i4 fun v5 =>
    (spec_l22Text v5.1).bind fun r6 =>
    bif (!(!r6)) then
      bif decide (kq3 > (0 : Int)) then
        nnK (IntKind.wrap .i64 (kq3 - (1 : Int))) fun i7 =>
        getK list2 i7 fun v8 =>
        nnK kq3 fun i9 =>
        getK list2 i9 fun v10 =>
        bif (!(!Op.bytesLess v8.1.toList v10.1.toList)) then
          nnK kq3 fun i11 =>
          getK list2 i11 fun v12 =>
          (spec_l1In v12.2.1 (0 : Int) (15 : Int)).bind fun r13 =>
          bif (!r13) then
            kr (false, ())
          else
          kn (list2, (IntKind.wrap .i64 (kq3 + (1 : Int))), ())
        else
        kr (false, ())
      else
      nnK kq3 fun i14 =>
      getK list2 i14 fun v15 =>
      (spec_l1In v15.2.1 (0 : Int) (15 : Int)).bind fun r16 =>
      bif (!r16) then
        kr (false, ())
      else
      kn (list2, (IntKind.wrap .i64 (kq3 + (1 : Int))), ())
    else
    kr (false, ())
  else
  kx (list2, ())
noncomputable def spec_NamesValid_l0 (x : (List DName) × Int × Unit) : Option (((List DName) × Int × Unit) ⊕ (((List DName) × Unit) ⊕ (Bool × Unit))) :=
  spec_NamesValid_l0K x.1 x.2.1 (fun y => some (.inl y)) (fun a => some (.inr (.inl a))) (fun b => some (.inr (.inr b)))
theorem spec_NamesValid_l0_eq {γ : Type} (list2 : (List DName)) (kq3 : Int) (kn : (List DName) × Int × Unit → Option γ) (kx : (List DName) × Unit → Option γ) (kr : Bool × Unit → Option γ) : spec_NamesValid_l0K list2 kq3 kn kx kr = (spec_NamesValid_l0 (list2, kq3, ())).bind fun r => sum3K r kn kx kr := by
  simp only [spec_NamesValid_l0K, spec_NamesValid_l0, cond_bind', chk_bind', nnK_bind', getK_bind', getBK_bind', endK_bind', bind_bind', some_bind', none_bind', sum3K_1, sum3K_2, sum3K_3, sum2K_1, sum2K_2]
noncomputable def spec_NamesValidK {γ : Type} (list1 : (List DName)) (k : Bool → Option γ) : Option γ :=
  (loopF spec_NamesValid_l0 (list1, (0 : Int), ())).bind fun q => endK q (fun z17 =>
    k (decide ((z17.1.length : Int) ≤ (20 : Int)))) (fun z18 =>
    k z18.1)
noncomputable def spec_NamesValid (list1 : (List DName)) : Option (Bool) :=
  spec_NamesValidK list1 some
theorem spec_NamesValid_eq {γ : Type} (list1 : (List DName)) (k : Bool → Option γ) : spec_NamesValidK list1 k = (spec_NamesValid list1).bind k := by
  simp only [spec_NamesValidK, spec_NamesValid, cond_bind', chk_bind', nnK_bind', getK_bind', getBK_bind', endK_bind', bind_bind', some_bind', none_bind', sum3K_1, sum3K_2, sum3K_3, sum2K_1, sum2K_2]

/-! loop.example/capkernel/spec.FindName -/
noncomputable def spec_FindName_l0K {γ : Type} (list3 : (List DName)) (text4 : ByteArray) (kq5 : Int) (kn : (List DName) × ByteArray × Int × Unit → Option γ) (kx : Unit → Option γ) (kr : Int × Bool × Unit → Option γ) : Option γ :=
  bif decide (kq5 < (list3.length : Int)) then
    (spec_NamesValid list3).bind fun r6 =>
    bif r6 then
      nnK kq5 fun i7 =>
      getK list3 i7 fun v8 =>
      bif (v8.1.toList == text4.toList) then
        nnK kq5 fun i9 =>
        getK list3 i9 fun v10 =>
        kr (v10.2.2.1, true, ())
      else
      kn (list3, text4, (IntKind.wrap .i64 (kq5 + (1 : Int))), ())
    else
    kx ()
  else
  kx ()
noncomputable def spec_FindName_l0 (x : (List DName) × ByteArray × Int × Unit) : Option (((List DName) × ByteArray × Int × Unit) ⊕ ((Unit) ⊕ (Int × Bool × Unit))) :=
  spec_FindName_l0K x.1 x.2.1 x.2.2.1 (fun y => some (.inl y)) (fun a => some (.inr (.inl a))) (fun b => some (.inr (.inr b)))
theorem spec_FindName_l0_eq {γ : Type} (list3 : (List DName)) (text4 : ByteArray) (kq5 : Int) (kn : (List DName) × ByteArray × Int × Unit → Option γ) (kx : Unit → Option γ) (kr : Int × Bool × Unit → Option γ) : spec_FindName_l0K list3 text4 kq5 kn kx kr = (spec_FindName_l0 (list3, text4, kq5, ())).bind fun r => sum3K r kn kx kr := by
  simp only [spec_FindName_l0K, spec_FindName_l0, cond_bind', chk_bind', nnK_bind', getK_bind', getBK_bind', endK_bind', bind_bind', some_bind', none_bind', sum3K_1, sum3K_2, sum3K_3, sum2K_1, sum2K_2]
noncomputable def spec_FindNameK {γ : Type} (list1 : (List DName)) (text2 : ByteArray) (k : Int × Bool → Option γ) : Option γ :=
  (loopF spec_FindName_l0 (list1, text2, (0 : Int), ())).bind fun q => endK q (fun z11 =>
    k ((0 : Int), false)) (fun z12 =>
    k (z12.1, z12.2.1))
noncomputable def spec_FindName (list1 : (List DName)) (text2 : ByteArray) : Option (Int × Bool) :=
  spec_FindNameK list1 text2 some
theorem spec_FindName_eq {γ : Type} (list1 : (List DName)) (text2 : ByteArray) (k : Int × Bool → Option γ) : spec_FindNameK list1 text2 k = (spec_FindName list1 text2).bind k := by
  simp only [spec_FindNameK, spec_FindName, cond_bind', chk_bind', nnK_bind', getK_bind', getBK_bind', endK_bind', bind_bind', some_bind', none_bind', sum3K_1, sum3K_2, sum3K_3, sum2K_1, sum2K_2]

/-! loop.example/capkernel/impl.in -/
noncomputable def impl_inK {γ : Type} (n1 : Int) (lo2 : Int) (hi3 : Int) (k : Bool → Option γ) : Option γ :=
  bif decide (n1 ≥ lo2) then
    k (decide (n1 ≤ hi3))
  else
  k false
noncomputable def impl_in (n1 : Int) (lo2 : Int) (hi3 : Int) : Option (Bool) :=
  impl_inK n1 lo2 hi3 some
theorem impl_in_eq {γ : Type} (n1 : Int) (lo2 : Int) (hi3 : Int) (k : Bool → Option γ) : impl_inK n1 lo2 hi3 k = (impl_in n1 lo2 hi3).bind k := by
  simp only [impl_inK, impl_in, cond_bind', chk_bind', nnK_bind', getK_bind', getBK_bind', endK_bind', bind_bind', some_bind', none_bind', sum3K_1, sum3K_2, sum3K_3, sum2K_1, sum2K_2]

/-! loop.example/capkernel/impl.isThread -/
noncomputable def impl_isThreadK {γ : Type} (n1 : Int) (k : Bool → Option γ) : Option γ :=
  (impl_in n1 (0 : Int) (15 : Int)).bind fun r2 =>
  k r2
noncomputable def impl_isThread (n1 : Int) : Option (Bool) :=
  impl_isThreadK n1 some
theorem impl_isThread_eq {γ : Type} (n1 : Int) (k : Bool → Option γ) : impl_isThreadK n1 k = (impl_isThread n1).bind k := by
  simp only [impl_isThreadK, impl_isThread, cond_bind', chk_bind', nnK_bind', getK_bind', getBK_bind', endK_bind', bind_bind', some_bind', none_bind', sum3K_1, sum3K_2, sum3K_3, sum2K_1, sum2K_2]

/-! (loop.example/capkernel/impl.Name).may -/
noncomputable def impl_Name_may_l0K {γ : Type} (x2 : DName) (a3 : Int) (a4 : Int) (kn : DName × Int × Int × Unit → Option γ) (kx : DName × Unit → Option γ) (kr : Bool × Unit → Option γ) : Option γ :=
  bif decide (a4 < a3) then
    nnK a4 fun i6 =>
    getBK x2.1 i6 fun c5 =>
    bif (!decide (((UInt8.toNat c5 : Nat) : Int) < (97 : Int))) then
      nnK a4 fun i8 =>
      getBK x2.1 i8 fun c7 =>
      bif decide (((UInt8.toNat c7 : Nat) : Int) > (122 : Int)) then
        kr (false, ())
      else
      kn (x2, a3, (IntKind.wrap .i64 (a4 + (1 : Int))), ())
    else
    kr (false, ())
  else
  kx (x2, ())
noncomputable def impl_Name_may_l0 (x : DName × Int × Int × Unit) : Option ((DName × Int × Int × Unit) ⊕ ((DName × Unit) ⊕ (Bool × Unit))) :=
  impl_Name_may_l0K x.1 x.2.1 x.2.2.1 (fun y => some (.inl y)) (fun a => some (.inr (.inl a))) (fun b => some (.inr (.inr b)))
theorem impl_Name_may_l0_eq {γ : Type} (x2 : DName) (a3 : Int) (a4 : Int) (kn : DName × Int × Int × Unit → Option γ) (kx : DName × Unit → Option γ) (kr : Bool × Unit → Option γ) : impl_Name_may_l0K x2 a3 a4 kn kx kr = (impl_Name_may_l0 (x2, a3, a4, ())).bind fun r => sum3K r kn kx kr := by
  simp only [impl_Name_may_l0K, impl_Name_may_l0, cond_bind', chk_bind', nnK_bind', getK_bind', getBK_bind', endK_bind', bind_bind', some_bind', none_bind', sum3K_1, sum3K_2, sum3K_3, sum2K_1, sum2K_2]
noncomputable def impl_Name_mayK {γ : Type} (x1 : DName) (k : Bool → Option γ) : Option γ :=
  (loopF impl_Name_may_l0 ((x1.1, x1.2.1, x1.2.2.1, ()), (x1.1.size : Int), (0 : Int), ())).bind fun q => endK q (fun z9 =>
    (impl_in (z9.1.1.size : Int) (1 : Int) (12 : Int)).bind fun r11 =>
    bif r11 then
      (impl_isThread z9.1.2.1).bind fun r12 =>
      k r12
    else
    k false) (fun z10 =>
    k z10.1)
noncomputable def impl_Name_may (x1 : DName) : Option (Bool) :=
  impl_Name_mayK x1 some
theorem impl_Name_may_eq {γ : Type} (x1 : DName) (k : Bool → Option γ) : impl_Name_mayK x1 k = (impl_Name_may x1).bind k := by
  simp only [impl_Name_mayK, impl_Name_may, cond_bind', chk_bind', nnK_bind', getK_bind', getBK_bind', endK_bind', bind_bind', some_bind', none_bind', sum3K_1, sum3K_2, sum3K_3, sum2K_1, sum2K_2]

/-! loop.example/capkernel/impl.NamesValid -/
noncomputable def impl_NamesValid_l0K {γ : Type} (list2 : (List DName)) (a3 : (List DName)) (a4 : Int) (a5 : Int) (kn : (List DName) × (List DName) × Int × Int × Unit → Option γ) (kx : (List DName) × Unit → Option γ) (kr : Bool × Unit → Option γ) : Option γ :=
  bif decide (a5 < a4) then
    nnK a5 fun i6 =>
    getK a3 i6 fun v7 =>
    (impl_Name_may (v7.1, v7.2.1, v7.2.2.1, ())).bind fun r8 =>
    bif (!(!r8)) then
      bif decide (a5 > (0 : Int)) then
        nnK (IntKind.wrap .i64 (a5 - (1 : Int))) fun i9 =>
        getK list2 i9 fun v10 =>
        bif (Op.bytesLess v7.1.toList v10.1.toList || (v7.1.toList == v10.1.toList)) then
          kr (false, ())
        else
        kn (list2, a3, a4, (IntKind.wrap .i64 (a5 + (1 : Int))), ())
      else
      kn (list2, a3, a4, (IntKind.wrap .i64 (a5 + (1 : Int))), ())
    else
    kr (false, ())
  else
  kx (list2, ())
noncomputable def impl_NamesValid_l0 (x : (List DName) × (List DName) × Int × Int × Unit) : Option (((List DName) × (List DName) × Int × Int × Unit) ⊕ (((List DName) × Unit) ⊕ (Bool × Unit))) :=
  impl_NamesValid_l0K x.1 x.2.1 x.2.2.1 x.2.2.2.1 (fun y => some (.inl y)) (fun a => some (.inr (.inl a))) (fun b => some (.inr (.inr b)))
theorem impl_NamesValid_l0_eq {γ : Type} (list2 : (List DName)) (a3 : (List DName)) (a4 : Int) (a5 : Int) (kn : (List DName) × (List DName) × Int × Int × Unit → Option γ) (kx : (List DName) × Unit → Option γ) (kr : Bool × Unit → Option γ) : impl_NamesValid_l0K list2 a3 a4 a5 kn kx kr = (impl_NamesValid_l0 (list2, a3, a4, a5, ())).bind fun r => sum3K r kn kx kr := by
  simp only [impl_NamesValid_l0K, impl_NamesValid_l0, cond_bind', chk_bind', nnK_bind', getK_bind', getBK_bind', endK_bind', bind_bind', some_bind', none_bind', sum3K_1, sum3K_2, sum3K_3, sum2K_1, sum2K_2]
noncomputable def impl_NamesValidK {γ : Type} (list1 : (List DName)) (k : Bool → Option γ) : Option γ :=
  (loopF impl_NamesValid_l0 (list1, list1, (list1.length : Int), (0 : Int), ())).bind fun q => endK q (fun z11 =>
    k (decide ((z11.1.length : Int) ≤ (20 : Int)))) (fun z12 =>
    k z12.1)
noncomputable def impl_NamesValid (list1 : (List DName)) : Option (Bool) :=
  impl_NamesValidK list1 some
theorem impl_NamesValid_eq {γ : Type} (list1 : (List DName)) (k : Bool → Option γ) : impl_NamesValidK list1 k = (impl_NamesValid list1).bind k := by
  simp only [impl_NamesValidK, impl_NamesValid, cond_bind', chk_bind', nnK_bind', getK_bind', getBK_bind', endK_bind', bind_bind', some_bind', none_bind', sum3K_1, sum3K_2, sum3K_3, sum2K_1, sum2K_2]

/-! cmp.isNaN(string) -/
noncomputable def cmp_isNaN_stringK {γ : Type} (x1 : ByteArray) (k : Bool → Option γ) : Option γ :=
  k (!(x1.toList == x1.toList))
noncomputable def cmp_isNaN_string (x1 : ByteArray) : Option (Bool) :=
  cmp_isNaN_stringK x1 some
theorem cmp_isNaN_string_eq {γ : Type} (x1 : ByteArray) (k : Bool → Option γ) : cmp_isNaN_stringK x1 k = (cmp_isNaN_string x1).bind k := by
  simp only [cmp_isNaN_stringK, cmp_isNaN_string, cond_bind', chk_bind', nnK_bind', getK_bind', getBK_bind', endK_bind', bind_bind', some_bind', none_bind', sum3K_1, sum3K_2, sum3K_3, sum2K_1, sum2K_2]

/-! cmp.Compare(string) -/
noncomputable def cmp_Compare_stringK {γ : Type} (x1 : ByteArray) (y2 : ByteArray) (k : Int → Option γ) : Option γ :=
  (cmp_isNaN_string x1).bind fun r3 =>
  (cmp_isNaN_string y2).bind fun r4 =>
  bif r3 then
    bif r4 then
      k (0 : Int)
    else
    k (-1 : Int)
  else
  bif r4 then
    k (1 : Int)
  else
  bif (Op.bytesLess x1.toList y2.toList) then
    k (-1 : Int)
  else
  bif (!(Op.bytesLess x1.toList y2.toList || (x1.toList == y2.toList))) then
    k (1 : Int)
  else
  k (0 : Int)
noncomputable def cmp_Compare_string (x1 : ByteArray) (y2 : ByteArray) : Option (Int) :=
  cmp_Compare_stringK x1 y2 some
theorem cmp_Compare_string_eq {γ : Type} (x1 : ByteArray) (y2 : ByteArray) (k : Int → Option γ) : cmp_Compare_stringK x1 y2 k = (cmp_Compare_string x1 y2).bind k := by
  simp only [cmp_Compare_stringK, cmp_Compare_string, cond_bind', chk_bind', nnK_bind', getK_bind', getBK_bind', endK_bind', bind_bind', some_bind', none_bind', sum3K_1, sum3K_2, sum3K_3, sum2K_1, sum2K_2]

/-! loop.example/capkernel/impl.find$1 -/
noncomputable def impl_find_c1K {γ : Type} (x1 : DName) (sq2 : ByteArray) (k : Int → Option γ) : Option γ :=
  (cmp_Compare_string x1.1 sq2).bind fun r3 =>
  k r3
noncomputable def impl_find_c1 (x1 : DName) (sq2 : ByteArray) : Option (Int) :=
  impl_find_c1K x1 sq2 some
theorem impl_find_c1_eq {γ : Type} (x1 : DName) (sq2 : ByteArray) (k : Int → Option γ) : impl_find_c1K x1 sq2 k = (impl_find_c1 x1 sq2).bind k := by
  simp only [impl_find_c1K, impl_find_c1, cond_bind', chk_bind', nnK_bind', getK_bind', getBK_bind', endK_bind', bind_bind', some_bind', none_bind', sum3K_1, sum3K_2, sum3K_3, sum2K_1, sum2K_2]

/-! slices.BinarySearchFunc(()loop.example/capkernel/impl.Name,loop.example/capkernel/impl.Name,string) -/
noncomputable def slices_BinarySearchFunc_string_l0K {γ : Type} (x3 : (List DName)) (target4 : ByteArray) (n5 : Int) (i6 : Int) (j7 : Int) (kn : (List DName) × ByteArray × Int × Int × Int × Unit → Option γ) (kx : (List DName) × ByteArray × Int × Int × Unit → Option γ) : Option γ :=
  bif decide (i6 < j7) then
    nnK (IntKind.wrap .i64 ((Int.fdiv (IntKind.wrap .u64 ((IntKind.wrap .i64 (i6 + j7)))) (2 ^ (min ((1 : Int)).toNat 64))))) fun i8 =>
    getK x3 i8 fun v9 =>
    (impl_find_c1 v9 target4).bind fun r10 =>
    bif decide (r10 < (0 : Int)) then
      kn (x3, target4, n5, (IntKind.wrap .i64 ((IntKind.wrap .i64 ((Int.fdiv (IntKind.wrap .u64 ((IntKind.wrap .i64 (i6 + j7)))) (2 ^ (min ((1 : Int)).toNat 64))))) + (1 : Int))), j7, ())
    else
    kn (x3, target4, n5, i6, (IntKind.wrap .i64 ((Int.fdiv (IntKind.wrap .u64 ((IntKind.wrap .i64 (i6 + j7)))) (2 ^ (min ((1 : Int)).toNat 64))))), ())
  else
  kx (x3, target4, n5, i6, ())
noncomputable def slices_BinarySearchFunc_string_l0 (x : (List DName) × ByteArray × Int × Int × Int × Unit) : Option (((List DName) × ByteArray × Int × Int × Int × Unit) ⊕ ((List DName) × ByteArray × Int × Int × Unit)) :=
  slices_BinarySearchFunc_string_l0K x.1 x.2.1 x.2.2.1 x.2.2.2.1 x.2.2.2.2.1 (fun y => some (.inl y)) (fun a => some (.inr a))
theorem slices_BinarySearchFunc_string_l0_eq {γ : Type} (x3 : (List DName)) (target4 : ByteArray) (n5 : Int) (i6 : Int) (j7 : Int) (kn : (List DName) × ByteArray × Int × Int × Int × Unit → Option γ) (kx : (List DName) × ByteArray × Int × Int × Unit → Option γ) : slices_BinarySearchFunc_string_l0K x3 target4 n5 i6 j7 kn kx = (slices_BinarySearchFunc_string_l0 (x3, target4, n5, i6, j7, ())).bind fun r => sum2K r kn kx := by
  simp only [slices_BinarySearchFunc_string_l0K, slices_BinarySearchFunc_string_l0, cond_bind', chk_bind', nnK_bind', getK_bind', getBK_bind', endK_bind', bind_bind', some_bind', none_bind', sum3K_1, sum3K_2, sum3K_3, sum2K_1, sum2K_2]
noncomputable def slices_BinarySearchFunc_stringK {γ : Type} (x1 : (List DName)) (target2 : ByteArray) (k : Int × Bool → Option γ) : Option γ :=
  (loopF slices_BinarySearchFunc_string_l0 (x1, target2, (x1.length : Int), (0 : Int), (x1.length : Int), ())).bind fun z11 =>
  bif decide (z11.2.2.2.1 < z11.2.2.1) then
    nnK z11.2.2.2.1 fun i12 =>
    getK z11.1 i12 fun v13 =>
    (impl_find_c1 v13 z11.2.1).bind fun r14 =>
    k (z11.2.2.2.1, (r14 == (0 : Int)))
  else
  k (z11.2.2.2.1, false)
noncomputable def slices_BinarySearchFunc_string (x1 : (List DName)) (target2 : ByteArray) : Option (Int × Bool) :=
  slices_BinarySearchFunc_stringK x1 target2 some
theorem slices_BinarySearchFunc_string_eq {γ : Type} (x1 : (List DName)) (target2 : ByteArray) (k : Int × Bool → Option γ) : slices_BinarySearchFunc_stringK x1 target2 k = (slices_BinarySearchFunc_string x1 target2).bind k := by
  simp only [slices_BinarySearchFunc_stringK, slices_BinarySearchFunc_string, cond_bind', chk_bind', nnK_bind', getK_bind', getBK_bind', endK_bind', bind_bind', some_bind', none_bind', sum3K_1, sum3K_2, sum3K_3, sum2K_1, sum2K_2]

/-! loop.example/capkernel/impl.find -/
noncomputable def impl_findK {γ : Type} (list1 : (List DName)) (text2 : ByteArray) (k : Int × Bool → Option γ) : Option γ :=
  (slices_BinarySearchFunc_string list1 text2).bind fun r3 =>
  k (r3.1, r3.2)
noncomputable def impl_find (list1 : (List DName)) (text2 : ByteArray) : Option (Int × Bool) :=
  impl_findK list1 text2 some
theorem impl_find_eq {γ : Type} (list1 : (List DName)) (text2 : ByteArray) (k : Int × Bool → Option γ) : impl_findK list1 text2 k = (impl_find list1 text2).bind k := by
  simp only [impl_findK, impl_find, cond_bind', chk_bind', nnK_bind', getK_bind', getBK_bind', endK_bind', bind_bind', some_bind', none_bind', sum3K_1, sum3K_2, sum3K_3, sum2K_1, sum2K_2]

/-! loop.example/capkernel/impl.FindName -/
noncomputable def impl_FindNameK {γ : Type} (list1 : (List DName)) (text2 : ByteArray) (k : Int × Bool → Option γ) : Option γ :=
  (impl_NamesValid list1).bind fun r3 =>
  bif (!r3) then
    k ((0 : Int), false)
  else
  (impl_find list1 text2).bind fun r4 =>
  bif (!r4.2) then
    k ((0 : Int), false)
  else
  nnK r4.1 fun i5 =>
  getK list1 i5 fun v6 =>
  k (v6.2.2.1, true)
noncomputable def impl_FindName (list1 : (List DName)) (text2 : ByteArray) : Option (Int × Bool) :=
  impl_FindNameK list1 text2 some
theorem impl_FindName_eq {γ : Type} (list1 : (List DName)) (text2 : ByteArray) (k : Int × Bool → Option γ) : impl_FindNameK list1 text2 k = (impl_FindName list1 text2).bind k := by
  simp only [impl_FindNameK, impl_FindName, cond_bind', chk_bind', nnK_bind', getK_bind', getBK_bind', endK_bind', bind_bind', some_bind', none_bind', sum3K_1, sum3K_2, sum3K_3, sum2K_1, sum2K_2]

/-! loop.example/capkernel/laws.eqName -/
noncomputable def laws_eqNameK {γ : Type} (a1 : DName) (b2 : DName) (k : Bool → Option γ) : Option γ :=
  bif (!(a1.1.toList == b2.1.toList)) then
    k false
  else
  bif (a1.2.1 != b2.2.1) then
    k false
  else
  bif (a1.2.2.1 != b2.2.2.1) then
    k false
  else
  k true
noncomputable def laws_eqName (a1 : DName) (b2 : DName) : Option (Bool) :=
  laws_eqNameK a1 b2 some
theorem laws_eqName_eq {γ : Type} (a1 : DName) (b2 : DName) (k : Bool → Option γ) : laws_eqNameK a1 b2 k = (laws_eqName a1 b2).bind k := by
  simp only [laws_eqNameK, laws_eqName, cond_bind', chk_bind', nnK_bind', getK_bind', getBK_bind', endK_bind', bind_bind', some_bind', none_bind', sum3K_1, sum3K_2, sum3K_3, sum2K_1, sum2K_2]

/-! loop.example/capkernel/laws.eqNameS -/
noncomputable def laws_eqNameS_l0K {γ : Type} (a3 : (List DName)) (b4 : (List DName)) (i5 : Int) (kn : (List DName) × (List DName) × Int × Unit → Option γ) (kx : Unit → Option γ) (kr : Bool × Unit → Option γ) : Option γ :=
  bif decide (i5 < (a3.length : Int)) then
    nnK i5 fun i6 =>
    getK a3 i6 fun v7 =>
    nnK i5 fun i8 =>
    getK b4 i8 fun v9 =>
    (laws_eqName v7 v9).bind fun r10 =>
    bif (!r10) then
      kr (false, ())
    else
    kn (a3, b4, (IntKind.wrap .i64 (i5 + (1 : Int))), ())
  else
  kx ()
noncomputable def laws_eqNameS_l0 (x : (List DName) × (List DName) × Int × Unit) : Option (((List DName) × (List DName) × Int × Unit) ⊕ ((Unit) ⊕ (Bool × Unit))) :=
  laws_eqNameS_l0K x.1 x.2.1 x.2.2.1 (fun y => some (.inl y)) (fun a => some (.inr (.inl a))) (fun b => some (.inr (.inr b)))
theorem laws_eqNameS_l0_eq {γ : Type} (a3 : (List DName)) (b4 : (List DName)) (i5 : Int) (kn : (List DName) × (List DName) × Int × Unit → Option γ) (kx : Unit → Option γ) (kr : Bool × Unit → Option γ) : laws_eqNameS_l0K a3 b4 i5 kn kx kr = (laws_eqNameS_l0 (a3, b4, i5, ())).bind fun r => sum3K r kn kx kr := by
  simp only [laws_eqNameS_l0K, laws_eqNameS_l0, cond_bind', chk_bind', nnK_bind', getK_bind', getBK_bind', endK_bind', bind_bind', some_bind', none_bind', sum3K_1, sum3K_2, sum3K_3, sum2K_1, sum2K_2]
noncomputable def laws_eqNameSK {γ : Type} (a1 : (List DName)) (b2 : (List DName)) (k : Bool → Option γ) : Option γ :=
  bif ((a1.length : Int) != (b2.length : Int)) then
    k false
  else
  (loopF laws_eqNameS_l0 (a1, b2, (0 : Int), ())).bind fun q => endK q (fun z11 =>
    k true) (fun z12 =>
    k z12.1)
noncomputable def laws_eqNameS (a1 : (List DName)) (b2 : (List DName)) : Option (Bool) :=
  laws_eqNameSK a1 b2 some
theorem laws_eqNameS_eq {γ : Type} (a1 : (List DName)) (b2 : (List DName)) (k : Bool → Option γ) : laws_eqNameSK a1 b2 k = (laws_eqNameS a1 b2).bind k := by
  simp only [laws_eqNameSK, laws_eqNameS, cond_bind', chk_bind', nnK_bind', getK_bind', getBK_bind', endK_bind', bind_bind', some_bind', none_bind', sum3K_1, sum3K_2, sum3K_3, sum2K_1, sum2K_2]

/-! loop.example/capkernel/laws.FnExactFindName -/
noncomputable def laws_FnExactFindNameK {γ : Type} (aList1 : (List DName)) (aText2 : ByteArray) (k : Bool → Option γ) : Option γ :=
  bif decide ((aText2.size : Int) > (1048576 : Int)) then
    k true
  else
  (laws_szNameS aList1 (1048576 : Int)).bind fun r3 =>
  bif decide (r3 < (0 : Int)) then
    k true
  else
  (laws_toNameS aList1).bind fun r4 =>
  (spec_FindName r4 aText2).bind fun r5 =>
  (laws_toNameS aList1).bind fun r6 =>
  (impl_FindName r6 aText2).bind fun r7 =>
  bif (!(r7.1 != r5.1)) then
    bif (!(r7.2 == r5.2)) then
      k false
    else
    (laws_toNameS aList1).bind fun r8 =>
    (laws_eqNameS r6 r8).bind fun r9 =>
    bif (!r9) then
      k false
    else
    k true
  else
  k false
noncomputable def laws_FnExactFindName (aList1 : (List DName)) (aText2 : ByteArray) : Option (Bool) :=
  laws_FnExactFindNameK aList1 aText2 some
theorem laws_FnExactFindName_eq {γ : Type} (aList1 : (List DName)) (aText2 : ByteArray) (k : Bool → Option γ) : laws_FnExactFindNameK aList1 aText2 k = (laws_FnExactFindName aList1 aText2).bind k := by
  simp only [laws_FnExactFindNameK, laws_FnExactFindName, cond_bind', chk_bind', nnK_bind', getK_bind', getBK_bind', endK_bind', bind_bind', some_bind', none_bind', sum3K_1, sum3K_2, sum3K_3, sum2K_1, sum2K_2]

end Go.Ev
