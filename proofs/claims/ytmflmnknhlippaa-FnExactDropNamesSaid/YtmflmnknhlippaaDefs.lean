/-
  What the functions of the program compute, as functions of plain data; printed by a program of the prover.
-/
import Derived.Test.YtmflmnknhlippaaEv3
namespace Go.Ev
set_option linter.unusedVariables false
set_option linter.unusedSimpArgs false
set_option maxRecDepth 100000
abbrev I : Ty := .int .i64
abbrev Dl20Rd : Type := (List Int) × Int × Unit
abbrev tl20Rd : Ty := .cons (.sl (.int .u8)) (.cons I (.nil))
abbrev DName : Type := ByteArray × Int × Int × Unit
abbrev tName : Ty := .cons .str (.cons I (.cons I (.nil)))
/-! loop.example/capkernel/spec.l20Open -/
noncomputable def spec_l20OpenK {γ : Type} (code1 : (List Int)) (k : Dl20Rd → Option γ) : Option γ :=
  bif decide ((code1.length : Int) > (2000 : Int)) then
    chk (2000 ≤ code1.length) <|
    k ((code1.take 2000), (0 : Int), ())
  else
  k (code1, (0 : Int), ())
noncomputable def spec_l20Open (code1 : (List Int)) : Option (Dl20Rd) :=
  spec_l20OpenK code1 some
theorem spec_l20Open_eq {γ : Type} (code1 : (List Int)) (k : Dl20Rd → Option γ) : spec_l20OpenK code1 k = (spec_l20Open code1).bind k := by
  simp only [spec_l20OpenK, spec_l20Open, cond_bind', chk_bind', nnK_bind', getK_bind', getBK_bind', endK_bind', bind_bind', some_bind', none_bind', sum3K_1, sum3K_2, sum3K_3, sum2K_1, sum2K_2]

/-! (*loop.example/capkernel/spec.l20Rd).pick -/
noncomputable def spec_l20Rd_pickK {γ : Type} (n1 : Int) (b2 : Dl20Rd) (k : Int × Dl20Rd → Option γ) : Option γ :=
  bif (!decide (n1 < (1 : Int))) then
    bif ((b2.1.length : Int) == (0 : Int)) then
      k ((0 : Int), (b2.1, (IntKind.wrap .i64 (b2.2.1 + (1 : Int))), ()))
    else
    bif decide ((IntKind.wrap .i64 ((IntKind.wrap .i64 (b2.2.1 + (1 : Int))) - (1 : Int))) < (b2.1.length : Int)) then
      nnK (IntKind.wrap .i64 ((IntKind.wrap .i64 (b2.2.1 + (1 : Int))) - (1 : Int))) fun i3 =>
      getK b2.1 i3 fun v4 =>
      chk (n1 ≠ 0) <|
      k ((Int.tmod (IntKind.wrap .i64 (v4)) n1), (b2.1, (IntKind.wrap .i64 (b2.2.1 + (1 : Int))), ()))
    else
    chk ((b2.1.length : Int) ≠ 0) <|
    nnK (Int.tmod (IntKind.wrap .i64 ((IntKind.wrap .i64 (b2.2.1 + (1 : Int))) - (1 : Int))) (b2.1.length : Int)) fun i5 =>
    getK b2.1 i5 fun v6 =>
    chk ((b2.1.length : Int) ≠ 0) <|
    nnK (Int.tmod (IntKind.wrap .i64 ((IntKind.wrap .i64 ((IntKind.wrap .i64 ((IntKind.wrap .i64 (b2.2.1 + (1 : Int))) - (1 : Int))) * (7 : Int))) + (3 : Int))) (b2.1.length : Int)) fun i7 =>
    getK b2.1 i7 fun v8 =>
    chk ((b2.1.length : Int) ≠ 0) <|
    chk (n1 ≠ 0) <|
    k ((Int.tmod (IntKind.wrap .i64 (((BitVec.ofInt 64 (IntKind.wrap .i64 ((IntKind.wrap .i64 ((IntKind.wrap .i64 ((IntKind.wrap .i64 ((IntKind.wrap .i64 (v6)) * (131 : Int))) + (IntKind.wrap .i64 ((IntKind.wrap .i64 (v8)) * (1117 : Int))))) + (IntKind.wrap .i64 ((IntKind.wrap .i64 ((IntKind.wrap .i64 (b2.2.1 + (1 : Int))) - (1 : Int))) * (29 : Int))))) + (IntKind.wrap .i64 ((IntKind.wrap .i64 (Int.tdiv (IntKind.wrap .i64 ((IntKind.wrap .i64 (b2.2.1 + (1 : Int))) - (1 : Int))) (b2.1.length : Int))) * (53 : Int))))) ^^^ BitVec.ofInt 64 (IntKind.wrap .i64 (Int.tdiv (IntKind.wrap .i64 ((IntKind.wrap .i64 ((IntKind.wrap .i64 ((IntKind.wrap .i64 ((IntKind.wrap .i64 (v6)) * (131 : Int))) + (IntKind.wrap .i64 ((IntKind.wrap .i64 (v8)) * (1117 : Int))))) + (IntKind.wrap .i64 ((IntKind.wrap .i64 ((IntKind.wrap .i64 (b2.2.1 + (1 : Int))) - (1 : Int))) * (29 : Int))))) + (IntKind.wrap .i64 ((IntKind.wrap .i64 (Int.tdiv (IntKind.wrap .i64 ((IntKind.wrap .i64 (b2.2.1 + (1 : Int))) - (1 : Int))) (b2.1.length : Int))) * (53 : Int))))) (64 : Int)))).toNat : Int))) n1), (b2.1, (IntKind.wrap .i64 (b2.2.1 + (1 : Int))), ()))
  else
  k ((0 : Int), (b2.1, (IntKind.wrap .i64 (b2.2.1 + (1 : Int))), ()))
noncomputable def spec_l20Rd_pick (n1 : Int) (b2 : Dl20Rd) : Option (Int × Dl20Rd) :=
  spec_l20Rd_pickK n1 b2 some
theorem spec_l20Rd_pick_eq {γ : Type} (n1 : Int) (b2 : Dl20Rd) (k : Int × Dl20Rd → Option γ) : spec_l20Rd_pickK n1 b2 k = (spec_l20Rd_pick n1 b2).bind k := by
  simp only [spec_l20Rd_pickK, spec_l20Rd_pick, cond_bind', chk_bind', nnK_bind', getK_bind', getBK_bind', endK_bind', bind_bind', some_bind', none_bind', sum3K_1, sum3K_2, sum3K_3, sum2K_1, sum2K_2]

/-! (*loop.example/capkernel/spec.l20Rd).odd -/
noncomputable def spec_l20Rd_oddK {γ : Type} (n1 : Int) (b2 : Dl20Rd) (k : Bool × Dl20Rd → Option γ) : Option γ :=
  bif decide (n1 > (0 : Int)) then
    (spec_l20Rd_pick n1 b2).bind fun r3 =>
    k ((r3.1 == (IntKind.wrap .i64 (n1 - (1 : Int)))), r3.2)
  else
  k (false, b2)
noncomputable def spec_l20Rd_odd (n1 : Int) (b2 : Dl20Rd) : Option (Bool × Dl20Rd) :=
  spec_l20Rd_oddK n1 b2 some
theorem spec_l20Rd_odd_eq {γ : Type} (n1 : Int) (b2 : Dl20Rd) (k : Bool × Dl20Rd → Option γ) : spec_l20Rd_oddK n1 b2 k = (spec_l20Rd_odd n1 b2).bind k := by
  simp only [spec_l20Rd_oddK, spec_l20Rd_odd, cond_bind', chk_bind', nnK_bind', getK_bind', getBK_bind', endK_bind', bind_bind', some_bind', none_bind', sum3K_1, sum3K_2, sum3K_3, sum2K_1, sum2K_2]

/-! loop.example/capkernel/spec.l20Text -/
noncomputable def spec_l20TextK {γ : Type} (n1 : Int) (b2 : Dl20Rd) (k : ByteArray × Dl20Rd → Option γ) : Option γ :=
  (spec_l20Rd_odd n1 b2).bind fun r3 =>
  bif r3.1 then
    (spec_l20Rd_pick (4 : Int) r3.2).bind fun r4 =>
    nnK r4.1 fun i5 =>
    getK [(ByteArray.mk #[]), (ByteArray.mk #[65, 98]), (ByteArray.mk #[97, 32, 98]), (ByteArray.mk #[97, 98, 99, 100, 101, 102, 103, 104, 105, 106, 107, 108, 109])] i5 fun v6 =>
    k (v6, r4.2)
  else
  (spec_l20Rd_pick (7 : Int) r3.2).bind fun r7 =>
  nnK r7.1 fun i8 =>
  getK [(ByteArray.mk #[97]), (ByteArray.mk #[98]), (ByteArray.mk #[97, 98]), (ByteArray.mk #[100, 114, 105, 118, 101, 114]), (ByteArray.mk #[110, 97, 109, 101, 115]), (ByteArray.mk #[114, 111, 111, 116]), (ByteArray.mk #[97, 98, 99, 100, 101, 102, 103, 104, 105, 106, 107, 108])] i8 fun v9 =>
  k (v9, r7.2)
noncomputable def spec_l20Text (n1 : Int) (b2 : Dl20Rd) : Option (ByteArray × Dl20Rd) :=
  spec_l20TextK n1 b2 some
theorem spec_l20Text_eq {γ : Type} (n1 : Int) (b2 : Dl20Rd) (k : ByteArray × Dl20Rd → Option γ) : spec_l20TextK n1 b2 k = (spec_l20Text n1 b2).bind k := by
  simp only [spec_l20TextK, spec_l20Text, cond_bind', chk_bind', nnK_bind', getK_bind', getBK_bind', endK_bind', bind_bind', some_bind', none_bind', sum3K_1, sum3K_2, sum3K_3, sum2K_1, sum2K_2]

/-! loop.example/capkernel/spec.l1In -/
noncomputable def spec_l1InK {γ : Type} (n1 : Int) (lo2 : Int) (hi3 : Int) (k : Bool → Option γ) : Option γ :=
  bif decide (n1 ≥ lo2) then
    k (decide (n1 ≤ hi3))
  else
  k false
noncomputable def spec_l1In (n1 : Int) (lo2 : Int) (hi3 : Int) : Option (Bool) :=
  spec_l1InK n1 lo2 hi3 some
theorem spec_l1In_eq {γ : Type} (n1 : Int) (lo2 : Int) (hi3 : Int) (k : Bool → Option γ) : spec_l1InK n1 lo2 hi3 k = (spec_l1In n1 lo2 hi3).bind k := by
  simp only [spec_l1InK, spec_l1In, cond_bind', chk_bind', nnK_bind', getK_bind', getBK_bind', endK_bind', bind_bind', some_bind', none_bind', sum3K_1, sum3K_2, sum3K_3, sum2K_1, sum2K_2]

/-! loop.example/capkernel/spec.l22Text -/
noncomputable def spec_l22Text_l0K {γ : Type} (sq2 : ByteArray) (kq3 : Int) (kn : ByteArray × Int × Unit → Option γ) (kx : ByteArray × Unit → Option γ) (kr : Bool × Unit → Option γ) : Option γ :=
  bif decide (kq3 < (sq2.size : Int)) then
    nnK kq3 fun i5 =>
    getBK sq2 i5 fun c4 =>
    bif (!decide (((UInt8.toNat c4 : Nat) : Int) < (97 : Int))) then
      nnK kq3 fun i7 =>
      getBK sq2 i7 fun c6 =>
      bif decide (((UInt8.toNat c6 : Nat) : Int) > (122 : Int)) then
        kr (false, ())
      else
      kn (sq2, (IntKind.wrap .i64 (kq3 + (1 : Int))), ())
    else
    kr (false, ())
  else
  kx (sq2, ())
noncomputable def spec_l22Text_l0 (x : ByteArray × Int × Unit) : Option ((ByteArray × Int × Unit) ⊕ ((ByteArray × Unit) ⊕ (Bool × Unit))) :=
  spec_l22Text_l0K x.1 x.2.1 (fun y => some (.inl y)) (fun a => some (.inr (.inl a))) (fun b => some (.inr (.inr b)))
theorem spec_l22Text_l0_eq {γ : Type} (sq2 : ByteArray) (kq3 : Int) (kn : ByteArray × Int × Unit → Option γ) (kx : ByteArray × Unit → Option γ) (kr : Bool × Unit → Option γ) : spec_l22Text_l0K sq2 kq3 kn kx kr = (spec_l22Text_l0 (sq2, kq3, ())).bind fun r => sum3K r kn kx kr := by
  simp only [spec_l22Text_l0K, spec_l22Text_l0, cond_bind', chk_bind', nnK_bind', getK_bind', getBK_bind', endK_bind', bind_bind', some_bind', none_bind', sum3K_1, sum3K_2, sum3K_3, sum2K_1, sum2K_2]
noncomputable def spec_l22TextK {γ : Type} (sq1 : ByteArray) (k : Bool → Option γ) : Option γ :=
  (loopF spec_l22Text_l0 (sq1, (0 : Int), ())).bind fun q => endK q (fun z8 =>
    (spec_l1In (z8.1.size : Int) (1 : Int) (12 : Int)).bind fun r10 =>
    k r10) (fun z9 =>
    k z9.1)
noncomputable def spec_l22Text (sq1 : ByteArray) : Option (Bool) :=
  spec_l22TextK sq1 some
theorem spec_l22Text_eq {γ : Type} (sq1 : ByteArray) (k : Bool → Option γ) : spec_l22TextK sq1 k = (spec_l22Text sq1).bind k := by
  simp only [spec_l22TextK, spec_l22Text, cond_bind', chk_bind', nnK_bind', getK_bind', getBK_bind', endK_bind', bind_bind', some_bind', none_bind', sum3K_1, sum3K_2, sum3K_3, sum2K_1, sum2K_2]

/-! loop.example/capkernel/spec.NamesValid -/
noncomputable def spec_NamesValid_l0K {γ : Type} (list2 : (List DName)) (kq3 : Int) (kn : (List DName) × Int × Unit → Option γ) (kx : (List DName) × Unit → Option γ) (kr : Bool × Unit → Option γ) : Option γ :=
  bif decide (kq3 < (list2.length : Int)) then
    nnK kq3 fun i4 =>
    getK list2 i4 fun v5 =>
    (spec_l22Text v5.1).bind fun r6 =>
    bif (!(!r6)) then
      bif decide (kq3 > (0 : Int)) then
        nnK (IntKind.wrap .i64 (kq3 - (1 : Int))) fun i7 =>
        getK list2 i7 fun v8 =>
        nnK kq3 fun i9 =>
        getK list2 i9 fun v10 =>
        bif (!(!Op.bytesLess v8.1.toList v10.1.toList)) then
          nnK kq3 fun i11 =>
          getK list2 i11 fun v12 =>
          (spec_l1In v12.2.1 (0 : Int) (15 : Int)).bind fun r13 =>
          bif (!r13) then
            kr (false, ())
          else
          kn (list2, (IntKind.wrap .i64 (kq3 + (1 : Int))), ())
        else
        kr (false, ())
      else
      nnK kq3 fun i14 =>
      getK list2 i14 fun v15 =>
      (spec_l1In v15.2.1 (0 : Int) (15 : Int)).bind fun r16 =>
      bif (!r16) then
        kr (false, ())
      else
      kn (list2, (IntKind.wrap .i64 (kq3 + (1 : Int))), ())
    else
    kr (false, ())
  else
  kx (list2, ())
noncomputable def spec_NamesValid_l0 (x : (List DName) × Int × Unit) : Option (((List DName) × Int × Unit) ⊕ (((List DName) × Unit) ⊕ (Bool × Unit))) :=
  spec_NamesValid_l0K x.1 x.2.1 (fun y => some (.inl y)) (fun a => some (.inr (.inl a))) (fun b => some (.inr (.inr b)))
theorem spec_NamesValid_l0_eq {γ : Type} (list2 : (List DName)) (kq3 : Int) (kn : (List DName) × Int × Unit → Option γ) (kx : (List DName) × Unit → Option γ) (kr : Bool × Unit → Option γ) : spec_NamesValid_l0K list2 kq3 kn kx kr = (spec_NamesValid_l0 (list2, kq3, ())).bind fun r => sum3K r kn kx kr := by
  simp only [spec_NamesValid_l0K, spec_NamesValid_l0, cond_bind', chk_bind', nnK_bind', getK_bind', getBK_bind', endK_bind', bind_bind', some_bind', none_bind', sum3K_1, sum3K_2, sum3K_3, sum2K_1, sum2K_2]
noncomputable def spec_NamesValidK {γ : Type} (list1 : (List DName)) (k : Bool → Option γ) : Option γ :=
  (loopF spec_NamesValid_l0 (list1, (0 : Int), ())).bind fun q => endK q (fun z17 =>
    k (decide ((z17.1.length : Int) ≤ (20 : Int)))) (fun z18 =>
    k z18.1)
noncomputable def spec_NamesValid (list1 : (List DName)) : Option (Bool) :=
  spec_NamesValidK list1 some
theorem spec_NamesValid_eq {γ : Type} (list1 : (List DName)) (k : Bool → Option γ) : spec_NamesValidK list1 k = (spec_NamesValid list1).bind k := by
  simp only [spec_NamesValidK, spec_NamesValid, cond_bind', chk_bind', nnK_bind', getK_bind', getBK_bind', endK_bind', bind_bind', some_bind', none_bind', sum3K_1, sum3K_2, sum3K_3, sum2K_1, sum2K_2]

/-! loop.example/capkernel/spec.PutName -/
noncomputable def spec_PutName_l0K {γ : Type} (list6 : (List DName)) (x7 : DName) (atq8 : Int) (kn : (List DName) × DName × Int × Unit → Option γ) (kx : (List DName) × DName × Int × Unit → Option γ) : Option γ :=
  bif decide (atq8 < (list6.length : Int)) then
    nnK atq8 fun i9 =>
    getK list6 i9 fun v10 =>
    bif (Op.bytesLess v10.1.toList x7.1.toList) then
      kn (list6, x7, (IntKind.wrap .i64 (atq8 + (1 : Int))), ())
    else
    kx (list6, x7, atq8, ())
  else
  kx (list6, x7, atq8, ())
noncomputable def spec_PutName_l0 (x : (List DName) × DName × Int × Unit) : Option (((List DName) × DName × Int × Unit) ⊕ ((List DName) × DName × Int × Unit)) :=
  spec_PutName_l0K x.1 x.2.1 x.2.2.1 (fun y => some (.inl y)) (fun a => some (.inr a))
theorem spec_PutName_l0_eq {γ : Type} (list6 : (List DName)) (x7 : DName) (atq8 : Int) (kn : (List DName) × DName × Int × Unit → Option γ) (kx : (List DName) × DName × Int × Unit → Option γ) : spec_PutName_l0K list6 x7 atq8 kn kx = (spec_PutName_l0 (list6, x7, atq8, ())).bind fun r => sum2K r kn kx := by
  simp only [spec_PutName_l0K, spec_PutName_l0, cond_bind', chk_bind', nnK_bind', getK_bind', getBK_bind', endK_bind', bind_bind', some_bind', none_bind', sum3K_1, sum3K_2, sum3K_3, sum2K_1, sum2K_2]
noncomputable def spec_PutNameK {γ : Type} (list1 : (List DName)) (x2 : DName) (k : Bool × (List DName) → Option γ) : Option γ :=
  (spec_NamesValid list1).bind fun r3 =>
  bif (!(!r3)) then
    (spec_l22Text x2.1).bind fun r4 =>
    bif (!(!r4)) then
      (spec_l1In x2.2.1 (0 : Int) (15 : Int)).bind fun r5 =>
      bif (!r5) then
        k (false, [])
      else
      (loopF spec_PutName_l0 (list1, (x2.1, x2.2.1, x2.2.2.1, ()), (0 : Int), ())).bind fun z11 =>
      chk (z11.1.length ≤ bigRow) <|
      bif decide (z11.2.2.1 < (z11.1.length : Int)) then
        nnK z11.2.2.1 fun i12 =>
        getK z11.1 i12 fun v13 =>
        bif (v13.1.toList == z11.2.1.1.toList) then
          nnK z11.2.2.1 fun i14 =>
          getK z11.1 i14 fun v15 =>
          bif (v15.2.1 != z11.2.1.2.1) then
            k (false, z11.1)
          else
          nnK z11.2.2.1 fun i16 =>
          chk (i16 < z11.1.length) <|
          getK z11.1 i16 fun y17 =>
          k (true, (z11.1.set i16 (z11.2.1.1, z11.2.1.2.1, z11.2.1.2.2.1, ())))
        else
        bif ((z11.1.length : Int) == (20 : Int)) then
          k (false, z11.1)
        else
        nnK z11.2.2.1 fun i18 =>
        chk (i18 ≤ z11.1.length) <|
        nnK z11.2.2.1 fun i19 =>
        chk (i19 ≤ z11.1.length) <|
        chk ((z11.1.take i18).length ≤ bigRow) <|
        chk (((z11.1.take i18).length + 1) ≤ bigRow) <|
        chk ((((z11.1.take i18) ++ [z11.2.1]).length + (z11.1.drop i19).length) ≤ bigRow) <|
        k (true, (((z11.1.take i18) ++ [z11.2.1]) ++ (z11.1.drop i19)))
      else
      bif ((z11.1.length : Int) == (20 : Int)) then
        k (false, z11.1)
      else
      nnK z11.2.2.1 fun i20 =>
      chk (i20 ≤ z11.1.length) <|
      nnK z11.2.2.1 fun i21 =>
      chk (i21 ≤ z11.1.length) <|
      chk ((z11.1.take i20).length ≤ bigRow) <|
      chk (((z11.1.take i20).length + 1) ≤ bigRow) <|
      chk ((((z11.1.take i20) ++ [z11.2.1]).length + (z11.1.drop i21).length) ≤ bigRow) <|
      k (true, (((z11.1.take i20) ++ [z11.2.1]) ++ (z11.1.drop i21)))
    else
    k (false, [])
  else
  k (false, [])
noncomputable def spec_PutName (list1 : (List DName)) (x2 : DName) : Option (Bool × (List DName)) :=
  spec_PutNameK list1 x2 some
theorem spec_PutName_eq {γ : Type} (list1 : (List DName)) (x2 : DName) (k : Bool × (List DName) → Option γ) : spec_PutNameK list1 x2 k = (spec_PutName list1 x2).bind k := by
  simp only [spec_PutNameK, spec_PutName, cond_bind', chk_bind', nnK_bind', getK_bind', getBK_bind', endK_bind', bind_bind', some_bind', none_bind', sum3K_1, sum3K_2, sum3K_3, sum2K_1, sum2K_2]

/-! loop.example/capkernel/spec.l20Names -/
noncomputable def spec_l20Names_l0K {γ : Type} (n4 : Int) (kq5 : Int) (b6 : Dl20Rd) (b7 : (List DName)) (kn : Int × Int × Dl20Rd × (List DName) × Unit → Option γ) (kx : Int × Dl20Rd × (List DName) × Unit → Option γ) : Option γ :=
  bif decide (kq5 > (0 : Int)) then
    (spec_l20Text (0 : Int) b6).bind fun r8 =>
    (spec_l20Rd_pick (3 : Int) r8.2).bind fun r9 =>
    (spec_l20Rd_pick (100 : Int) r9.2).bind fun r10 =>
    (spec_PutName b7 (r8.1, r9.1, r10.1, ())).bind fun r11 =>
    kn (n4, (IntKind.wrap .i64 (kq5 - (1 : Int))), r10.2, r11.2, ())
  else
  kx (n4, b6, b7, ())
noncomputable def spec_l20Names_l0 (x : Int × Int × Dl20Rd × (List DName) × Unit) : Option ((Int × Int × Dl20Rd × (List DName) × Unit) ⊕ (Int × Dl20Rd × (List DName) × Unit)) :=
  spec_l20Names_l0K x.1 x.2.1 x.2.2.1 x.2.2.2.1 (fun y => some (.inl y)) (fun a => some (.inr a))
theorem spec_l20Names_l0_eq {γ : Type} (n4 : Int) (kq5 : Int) (b6 : Dl20Rd) (b7 : (List DName)) (kn : Int × Int × Dl20Rd × (List DName) × Unit → Option γ) (kx : Int × Dl20Rd × (List DName) × Unit → Option γ) : spec_l20Names_l0K n4 kq5 b6 b7 kn kx = (spec_l20Names_l0 (n4, kq5, b6, b7, ())).bind fun r => sum2K r kn kx := by
  simp only [spec_l20Names_l0K, spec_l20Names_l0, cond_bind', chk_bind', nnK_bind', getK_bind', getBK_bind', endK_bind', bind_bind', some_bind', none_bind', sum3K_1, sum3K_2, sum3K_3, sum2K_1, sum2K_2]
noncomputable def spec_l20NamesK {γ : Type} (n1 : Int) (b2 : Dl20Rd) (k : Dl20Rd × (List DName) → Option γ) : Option γ :=
  (spec_l20Rd_pick (7 : Int) b2).bind fun r3 =>
  (loopF spec_l20Names_l0 (n1, r3.1, r3.2, [], ())).bind fun z12 =>
  (spec_l20Rd_odd z12.1 z12.2.1).bind fun r13 =>
  bif r13.1 then
    (spec_l20Rd_pick (3 : Int) r13.2).bind fun r14 =>
    bif (r14.1 == (0 : Int)) then
      chk ((z12.2.2.1.length + 1) ≤ bigRow) <|
      k (r14.2, (z12.2.2.1 ++ [((ByteArray.mk #[122, 122]), (16 : Int), (0 : Int), ())]))
    else
    bif (r14.1 == (1 : Int)) then
      chk ((z12.2.2.1.length + 2) ≤ bigRow) <|
      k (r14.2, (z12.2.2.1 ++ [((ByteArray.mk #[97]), (0 : Int), (0 : Int), ()), ((ByteArray.mk #[97]), (0 : Int), (0 : Int), ())]))
    else
    chk ((z12.2.2.1.length + 1) ≤ bigRow) <|
    k (r14.2, (z12.2.2.1 ++ [((ByteArray.mk #[]), (0 : Int), (0 : Int), ())]))
  else
  k (r13.2, z12.2.2.1)
noncomputable def spec_l20Names (n1 : Int) (b2 : Dl20Rd) : Option (Dl20Rd × (List DName)) :=
  spec_l20NamesK n1 b2 some
theorem spec_l20Names_eq {γ : Type} (n1 : Int) (b2 : Dl20Rd) (k : Dl20Rd × (List DName) → Option γ) : spec_l20NamesK n1 b2 k = (spec_l20Names n1 b2).bind k := by
  simp only [spec_l20NamesK, spec_l20Names, cond_bind', chk_bind', nnK_bind', getK_bind', getBK_bind', endK_bind', bind_bind', some_bind', none_bind', sum3K_1, sum3K_2, sum3K_3, sum2K_1, sum2K_2]

/-! loop.example/capkernel/spec.DrawNamesValid -/
noncomputable def spec_DrawNamesValidK {γ : Type} (code1 : (List Int)) (k : (List DName) → Option γ) : Option γ :=
  (spec_l20Open code1).bind fun r2 =>
  (spec_l20Names (2 : Int) r2).bind fun r3 =>
  k r3.2
noncomputable def spec_DrawNamesValid (code1 : (List Int)) : Option ((List DName)) :=
  spec_DrawNamesValidK code1 some
theorem spec_DrawNamesValid_eq {γ : Type} (code1 : (List Int)) (k : (List DName) → Option γ) : spec_DrawNamesValidK code1 k = (spec_DrawNamesValid code1).bind k := by
  simp only [spec_DrawNamesValidK, spec_DrawNamesValid, cond_bind', chk_bind', nnK_bind', getK_bind', getBK_bind', endK_bind', bind_bind', some_bind', none_bind', sum3K_1, sum3K_2, sum3K_3, sum2K_1, sum2K_2]

/-! loop.example/capkernel/impl.in -/
noncomputable def impl_inK {γ : Type} (n1 : Int) (lo2 : Int) (hi3 : Int) (k : Bool → Option γ) : Option γ :=
  bif decide (n1 ≥ lo2) then
    k (decide (n1 ≤ hi3))
  else
  k false
noncomputable def impl_in (n1 : Int) (lo2 : Int) (hi3 : Int) : Option (Bool) :=
  impl_inK n1 lo2 hi3 some
theorem impl_in_eq {γ : Type} (n1 : Int) (lo2 : Int) (hi3 : Int) (k : Bool → Option γ) : impl_inK n1 lo2 hi3 k = (impl_in n1 lo2 hi3).bind k := by
  simp only [impl_inK, impl_in, cond_bind', chk_bind', nnK_bind', getK_bind', getBK_bind', endK_bind', bind_bind', some_bind', none_bind', sum3K_1, sum3K_2, sum3K_3, sum2K_1, sum2K_2]

/-! loop.example/capkernel/impl.isThread -/
noncomputable def impl_isThreadK {γ : Type} (n1 : Int) (k : Bool → Option γ) : Option γ :=
  (impl_in n1 (0 : Int) (15 : Int)).bind fun r2 =>
  k r2
noncomputable def impl_isThread (n1 : Int) : Option (Bool) :=
  impl_isThreadK n1 some
theorem impl_isThread_eq {γ : Type} (n1 : Int) (k : Bool → Option γ) : impl_isThreadK n1 k = (impl_isThread n1).bind k := by
  simp only [impl_isThreadK, impl_isThread, cond_bind', chk_bind', nnK_bind', getK_bind', getBK_bind', endK_bind', bind_bind', some_bind', none_bind', sum3K_1, sum3K_2, sum3K_3, sum2K_1, sum2K_2]

/-! (loop.example/capkernel/impl.Name).may -/
noncomputable def impl_Name_may_l0K {γ : Type} (x2 : DName) (a3 : Int) (a4 : Int) (kn : DName × Int × Int × Unit → Option γ) (kx : DName × Unit → Option γ) (kr : Bool × Unit → Option γ) : Option γ :=
  bif decide (a4 < a3) then
    nnK a4 fun i6 =>
    getBK x2.1 i6 fun c5 =>
    bif (!decide (((UInt8.toNat c5 : Nat) : Int) < (97 : Int))) then
      nnK a4 fun i8 =>
      getBK x2.1 i8 fun c7 =>
      bif decide (((UInt8.toNat c7 : Nat) : Int) > (122 : Int)) then
        kr (false, ())
      else
      kn (x2, a3, (IntKind.wrap .i64 (a4 + (1 : Int))), ())
    else
    kr (false, ())
  else
  kx (x2, ())
noncomputable def impl_Name_may_l0 (x : DName × Int × Int × Unit) : Option ((DName × Int × Int × Unit) ⊕ ((DName × Unit) ⊕ (Bool × Unit))) :=
  impl_Name_may_l0K x.1 x.2.1 x.2.2.1 (fun y => some (.inl y)) (fun a => some (.inr (.inl a))) (fun b => some (.inr (.inr b)))
theorem impl_Name_may_l0_eq {γ : Type} (x2 : DName) (a3 : Int) (a4 : Int) (kn : DName × Int × Int × Unit → Option γ) (kx : DName × Unit → Option γ) (kr : Bool × Unit → Option γ) : impl_Name_may_l0K x2 a3 a4 kn kx kr = (impl_Name_may_l0 (x2, a3, a4, ())).bind fun r => sum3K r kn kx kr := by
  simp only [impl_Name_may_l0K, impl_Name_may_l0, cond_bind', chk_bind', nnK_bind', getK_bind', getBK_bind', endK_bind', bind_bind', some_bind', none_bind', sum3K_1, sum3K_2, sum3K_3, sum2K_1, sum2K_2]
noncomputable def impl_Name_mayK {γ : Type} (x1 : DName) (k : Bool → Option γ) : Option γ :=
  (loopF impl_Name_may_l0 ((x1.1, x1.2.1, x1.2.2.1, ()), (x1.1.size : Int), (0 : Int), ())).bind fun q => endK q (fun z9 =>
    (impl_in (z9.1.1.size : Int) (1 : Int) (12 : Int)).bind fun r11 =>
    bif r11 then
      (impl_isThread z9.1.2.1).bind fun r12 =>
      k r12
    else
    k false) (fun z10 =>
    k z10.1)
noncomputable def impl_Name_may (x1 : DName) : Option (Bool) :=
  impl_Name_mayK x1 some
theorem impl_Name_may_eq {γ : Type} (x1 : DName) (k : Bool → Option γ) : impl_Name_mayK x1 k = (impl_Name_may x1).bind k := by
  simp only [impl_Name_mayK, impl_Name_may, cond_bind', chk_bind', nnK_bind', getK_bind', getBK_bind', endK_bind', bind_bind', some_bind', none_bind', sum3K_1, sum3K_2, sum3K_3, sum2K_1, sum2K_2]

/-! loop.example/capkernel/impl.NamesValid -/
noncomputable def impl_NamesValid_l0K {γ : Type} (list2 : (List DName)) (a3 : (List DName)) (a4 : Int) (a5 : Int) (kn : (List DName) × (List DName) × Int × Int × Unit → Option γ) (kx : (List DName) × Unit → Option γ) (kr : Bool × Unit → Option γ) : Option γ :=
  bif decide (a5 < a4) then
    nnK a5 fun i6 =>
    getK a3 i6 fun v7 =>
    (impl_Name_may (v7.1, v7.2.1, v7.2.2.1, ())).bind fun r8 =>
    bif (!(!r8)) then
      bif decide (a5 > (0 : Int)) then
        nnK (IntKind.wrap .i64 (a5 - (1 : Int))) fun i9 =>
        getK list2 i9 fun v10 =>
        bif (Op.bytesLess v7.1.toList v10.1.toList || (v7.1.toList == v10.1.toList)) then
          kr (false, ())
        else
        kn (list2, a3, a4, (IntKind.wrap .i64 (a5 + (1 : Int))), ())
      else
      kn (list2, a3, a4, (IntKind.wrap .i64 (a5 + (1 : Int))), ())
    else
    kr (false, ())
  else
  kx (list2, ())
noncomputable def impl_NamesValid_l0 (x : (List DName) × (List DName) × Int × Int × Unit) : Option (((List DName) × (List DName) × Int × Int × Unit) ⊕ (((List DName) × Unit) ⊕ (Bool × Unit))) :=
  impl_NamesValid_l0K x.1 x.2.1 x.2.2.1 x.2.2.2.1 (fun y => some (.inl y)) (fun a => some (.inr (.inl a))) (fun b => some (.inr (.inr b)))
theorem impl_NamesValid_l0_eq {γ : Type} (list2 : (List DName)) (a3 : (List DName)) (a4 : Int) (a5 : Int) (kn : (List DName) × (List DName) × Int × Int × Unit → Option γ) (kx : (List DName) × Unit → Option γ) (kr : Bool × Unit → Option γ) : impl_NamesValid_l0K list2 a3 a4 a5 kn kx kr = (impl_NamesValid_l0 (list2, a3, a4, a5, ())).bind fun r => sum3K r kn kx kr := by
  simp only [impl_NamesValid_l0K, impl_NamesValid_l0, cond_bind', chk_bind', nnK_bind', getK_bind', getBK_bind', endK_bind', bind_bind', some_bind', none_bind', sum3K_1, sum3K_2, sum3K_3, sum2K_1, sum2K_2]
noncomputable def impl_NamesValidK {γ : Type} (list1 : (List DName)) (k : Bool → Option γ) : Option γ :=
  (loopF impl_NamesValid_l0 (list1, list1, (list1.length : Int), (0 : Int), ())).bind fun q => endK q (fun z11 =>
    k (decide ((z11.1.length : Int) ≤ (20 : Int)))) (fun z12 =>
    k z12.1)
noncomputable def impl_NamesValid (list1 : (List DName)) : Option (Bool) :=
  impl_NamesValidK list1 some
theorem impl_NamesValid_eq {γ : Type} (list1 : (List DName)) (k : Bool → Option γ) : impl_NamesValidK list1 k = (impl_NamesValid list1).bind k := by
  simp only [impl_NamesValidK, impl_NamesValid, cond_bind', chk_bind', nnK_bind', getK_bind', getBK_bind', endK_bind', bind_bind', some_bind', none_bind', sum3K_1, sum3K_2, sum3K_3, sum2K_1, sum2K_2]

/-! loop.example/capkernel/laws.alive -/
noncomputable def laws_aliveK {γ : Type}  (k : Bool → Option γ) : Option γ :=
  k true
noncomputable def laws_alive  : Option (Bool) :=
  laws_aliveK  some
theorem laws_alive_eq {γ : Type}  (k : Bool → Option γ) : laws_aliveK  k = (laws_alive ).bind k := by
  simp only [laws_aliveK, laws_alive, cond_bind', chk_bind', nnK_bind', getK_bind', getBK_bind', endK_bind', bind_bind', some_bind', none_bind', sum3K_1, sum3K_2, sum3K_3, sum2K_1, sum2K_2]

/-! loop.example/capkernel/laws.FnNamesValid -/
noncomputable def laws_FnNamesValidK {γ : Type} (code1 : (List Int)) (k : Bool → Option γ) : Option γ :=
  bif decide ((code1.length : Int) > (1048576 : Int)) then
    k true
  else
  (spec_DrawNamesValid code1).bind fun r2 =>
  (impl_NamesValid r2).bind fun r3 =>
  (spec_NamesValid r2).bind fun r4 =>
  bif (!(r3 == r4)) then
    k false
  else
  bif (!(!r3)) then
    nnK (IntKind.wrap .i64 (Int.tdiv (r2.length : Int) (2 : Int))) fun i5 =>
    chk (i5 ≤ r2.length) <|
    (impl_NamesValid (r2.take i5)).bind fun r6 =>
    bif r6 then
      chk (r2.length ≤ bigRow) <|
      chk ((r2.length + 2) ≤ bigRow) <|
      (impl_NamesValid (r2 ++ [((ByteArray.mk #[122, 122]), (0 : Int), (0 : Int), ()), ((ByteArray.mk #[122, 122]), (0 : Int), (0 : Int), ())])).bind fun r7 =>
      bif (!r7) then
        (laws_alive).bind fun r8 =>
        k r8
      else
      k false
    else
    k false
  else
  chk (r2.length ≤ bigRow) <|
  chk ((r2.length + 2) ≤ bigRow) <|
  (impl_NamesValid (r2 ++ [((ByteArray.mk #[122, 122]), (0 : Int), (0 : Int), ()), ((ByteArray.mk #[122, 122]), (0 : Int), (0 : Int), ())])).bind fun r9 =>
  bif (!r9) then
    (laws_alive).bind fun r10 =>
    k r10
  else
  k false
noncomputable def laws_FnNamesValid (code1 : (List Int)) : Option (Bool) :=
  laws_FnNamesValidK code1 some
theorem laws_FnNamesValid_eq {γ : Type} (code1 : (List Int)) (k : Bool → Option γ) : laws_FnNamesValidK code1 k = (laws_FnNamesValid code1).bind k := by
  simp only [laws_FnNamesValidK, laws_FnNamesValid, cond_bind', chk_bind', nnK_bind', getK_bind', getBK_bind', endK_bind', bind_bind', some_bind', none_bind', sum3K_1, sum3K_2, sum3K_3, sum2K_1, sum2K_2]

/-! loop.example/capkernel/laws.szName -/
noncomputable def laws_szNameK {γ : Type} (a1 : DName) (left2 : Int) (k : Int → Option γ) : Option γ :=
  bif decide ((IntKind.wrap .i64 (left2 - (a1.1.size : Int))) < (0 : Int)) then
    k (-1 : Int)
  else
  k (IntKind.wrap .i64 (left2 - (a1.1.size : Int)))
noncomputable def laws_szName (a1 : DName) (left2 : Int) : Option (Int) :=
  laws_szNameK a1 left2 some
theorem laws_szName_eq {γ : Type} (a1 : DName) (left2 : Int) (k : Int → Option γ) : laws_szNameK a1 left2 k = (laws_szName a1 left2).bind k := by
  simp only [laws_szNameK, laws_szName, cond_bind', chk_bind', nnK_bind', getK_bind', getBK_bind', endK_bind', bind_bind', some_bind', none_bind', sum3K_1, sum3K_2, sum3K_3, sum2K_1, sum2K_2]

/-! loop.example/capkernel/laws.szNameS -/
noncomputable def laws_szNameS_l0K {γ : Type} (a3 : (List DName)) (left4 : Int) (i5 : Int) (kn : (List DName) × Int × Int × Unit → Option γ) (kx : Int × Unit → Option γ) (kr : Int × Unit → Option γ) : Option γ :=
  bif decide (i5 < (a3.length : Int)) then
    nnK i5 fun i6 =>
    getK a3 i6 fun v7 =>
    (laws_szName v7 left4).bind fun r8 =>
    bif decide (r8 < (0 : Int)) then
      kr ((-1 : Int), ())
    else
    kn (a3, r8, (IntKind.wrap .i64 (i5 + (1 : Int))), ())
  else
  kx (left4, ())
noncomputable def laws_szNameS_l0 (x : (List DName) × Int × Int × Unit) : Option (((List DName) × Int × Int × Unit) ⊕ ((Int × Unit) ⊕ (Int × Unit))) :=
  laws_szNameS_l0K x.1 x.2.1 x.2.2.1 (fun y => some (.inl y)) (fun a => some (.inr (.inl a))) (fun b => some (.inr (.inr b)))
theorem laws_szNameS_l0_eq {γ : Type} (a3 : (List DName)) (left4 : Int) (i5 : Int) (kn : (List DName) × Int × Int × Unit → Option γ) (kx : Int × Unit → Option γ) (kr : Int × Unit → Option γ) : laws_szNameS_l0K a3 left4 i5 kn kx kr = (laws_szNameS_l0 (a3, left4, i5, ())).bind fun r => sum3K r kn kx kr := by
  simp only [laws_szNameS_l0K, laws_szNameS_l0, cond_bind', chk_bind', nnK_bind', getK_bind', getBK_bind', endK_bind', bind_bind', some_bind', none_bind', sum3K_1, sum3K_2, sum3K_3, sum2K_1, sum2K_2]
noncomputable def laws_szNameSK {γ : Type} (a1 : (List DName)) (left2 : Int) (k : Int → Option γ) : Option γ :=
  bif decide ((IntKind.wrap .i64 (left2 - (a1.length : Int))) < (0 : Int)) then
    k (-1 : Int)
  else
  (loopF laws_szNameS_l0 (a1, (IntKind.wrap .i64 (left2 - (a1.length : Int))), (0 : Int), ())).bind fun q => endK q (fun z9 =>
    k z9.1) (fun z10 =>
    k z10.1)
noncomputable def laws_szNameS (a1 : (List DName)) (left2 : Int) : Option (Int) :=
  laws_szNameSK a1 left2 some
theorem laws_szNameS_eq {γ : Type} (a1 : (List DName)) (left2 : Int) (k : Int → Option γ) : laws_szNameSK a1 left2 k = (laws_szNameS a1 left2).bind k := by
  simp only [laws_szNameSK, laws_szNameS, cond_bind', chk_bind', nnK_bind', getK_bind', getBK_bind', endK_bind', bind_bind', some_bind', none_bind', sum3K_1, sum3K_2, sum3K_3, sum2K_1, sum2K_2]

/-! loop.example/capkernel/laws.toName -/
noncomputable def laws_toNameK {γ : Type} (a1 : DName) (k : DName → Option γ) : Option γ :=
  k (a1.1, a1.2.1, a1.2.2.1, ())
noncomputable def laws_toName (a1 : DName) : Option (DName) :=
  laws_toNameK a1 some
theorem laws_toName_eq {γ : Type} (a1 : DName) (k : DName → Option γ) : laws_toNameK a1 k = (laws_toName a1).bind k := by
  simp only [laws_toNameK, laws_toName, cond_bind', chk_bind', nnK_bind', getK_bind', getBK_bind', endK_bind', bind_bind', some_bind', none_bind', sum3K_1, sum3K_2, sum3K_3, sum2K_1, sum2K_2]

/-! loop.example/capkernel/laws.toNameS -/
noncomputable def laws_toNameS_l0K {γ : Type} (a2 : (List DName)) (i3 : Int) (b4 : (List DName)) (kn : (List DName) × Int × (List DName) × Unit → Option γ) (kx : (List DName) × Unit → Option γ) : Option γ :=
  bif decide (i3 < (a2.length : Int)) then
    nnK i3 fun i5 =>
    getK a2 i5 fun v6 =>
    (laws_toName v6).bind fun r7 =>
    nnK i3 fun i8 =>
    chk (i8 < b4.length) <|
    getK b4 i8 fun y9 =>
    kn (a2, (IntKind.wrap .i64 (i3 + (1 : Int))), (b4.set i8 (r7.1, r7.2.1, r7.2.2.1, ())), ())
  else
  kx (b4, ())
noncomputable def laws_toNameS_l0 (x : (List DName) × Int × (List DName) × Unit) : Option (((List DName) × Int × (List DName) × Unit) ⊕ ((List DName) × Unit)) :=
  laws_toNameS_l0K x.1 x.2.1 x.2.2.1 (fun y => some (.inl y)) (fun a => some (.inr a))
theorem laws_toNameS_l0_eq {γ : Type} (a2 : (List DName)) (i3 : Int) (b4 : (List DName)) (kn : (List DName) × Int × (List DName) × Unit → Option γ) (kx : (List DName) × Unit → Option γ) : laws_toNameS_l0K a2 i3 b4 kn kx = (laws_toNameS_l0 (a2, i3, b4, ())).bind fun r => sum2K r kn kx := by
  simp only [laws_toNameS_l0K, laws_toNameS_l0, cond_bind', chk_bind', nnK_bind', getK_bind', getBK_bind', endK_bind', bind_bind', some_bind', none_bind', sum3K_1, sum3K_2, sum3K_3, sum2K_1, sum2K_2]
noncomputable def laws_toNameSK {γ : Type} (a1 : (List DName)) (k : (List DName) → Option γ) : Option γ :=
  chk (a1.length ≤ bigRow) <|
  (loopF laws_toNameS_l0 (a1, (0 : Int), (List.replicate a1.length ((ByteArray.mk #[]), (0 : Int), (0 : Int), ())), ())).bind fun z10 =>
  k z10.1
noncomputable def laws_toNameS (a1 : (List DName)) : Option ((List DName)) :=
  laws_toNameSK a1 some
theorem laws_toNameS_eq {γ : Type} (a1 : (List DName)) (k : (List DName) → Option γ) : laws_toNameSK a1 k = (laws_toNameS a1).bind k := by
  simp only [laws_toNameSK, laws_toNameS, cond_bind', chk_bind', nnK_bind', getK_bind', getBK_bind', endK_bind', bind_bind', some_bind', none_bind', sum3K_1, sum3K_2, sum3K_3, sum2K_1, sum2K_2]

/-! loop.example/capkernel/spec.FindName -/
noncomputable def spec_FindName_l0K {γ : Type} (list3 : (List DName)) (text4 : ByteArray) (kq5 : Int) (kn : (List DName) × ByteArray × Int × Unit → Option γ) (kx : Unit → Option γ) (kr : Int × Bool × Unit → Option γ) : Option γ :=
  bif decide (kq5 < (list3.length : Int)) then
    (spec_NamesValid list3).bind fun r6 =>
    bif r6 then
      nnK kq5 fun i7 =>
      getK list3 i7 fun v8 =>
      bif (v8.1.toList == text4.toList) then
        nnK kq5 fun i9 =>
        getK list3 i9 fun v10 =>
        kr (v10.2.2.1, true, ())
      else
      kn (list3, text4, (IntKind.wrap .i64 (kq5 + (1 : Int))), ())
    else
    kx ()
  else
  kx ()
noncomputable def spec_FindName_l0 (x : (List DName) × ByteArray × Int × Unit) : Option (((List DName) × ByteArray × Int × Unit) ⊕ ((Unit) ⊕ (Int × Bool × Unit))) :=
  spec_FindName_l0K x.1 x.2.1 x.2.2.1 (fun y => some (.inl y)) (fun a => some (.inr (.inl a))) (fun b => some (.inr (.inr b)))
theorem spec_FindName_l0_eq {γ : Type} (list3 : (List DName)) (text4 : ByteArray) (kq5 : Int) (kn : (List DName) × ByteArray × Int × Unit → Option γ) (kx : Unit → Option γ) (kr : Int × Bool × Unit → Option γ) : spec_FindName_l0K list3 text4 kq5 kn kx kr = (spec_FindName_l0 (list3, text4, kq5, ())).bind fun r => sum3K r kn kx kr := by
  simp only [spec_FindName_l0K, spec_FindName_l0, cond_bind', chk_bind', nnK_bind', getK_bind', getBK_bind', endK_bind', bind_bind', some_bind', none_bind', sum3K_1, sum3K_2, sum3K_3, sum2K_1, sum2K_2]
noncomputable def spec_FindNameK {γ : Type} (list1 : (List DName)) (text2 : ByteArray) (k : Int × Bool → Option γ) : Option γ :=
  (loopF spec_FindName_l0 (list1, text2, (0 : Int), ())).bind fun q => endK q (fun z11 =>
    k ((0 : Int), false)) (fun z12 =>
    k (z12.1, z12.2.1))
noncomputable def spec_FindName (list1 : (List DName)) (text2 : ByteArray) : Option (Int × Bool) :=
  spec_FindNameK list1 text2 some
theorem spec_FindName_eq {γ : Type} (list1 : (List DName)) (text2 : ByteArray) (k : Int × Bool → Option γ) : spec_FindNameK list1 text2 k = (spec_FindName list1 text2).bind k := by
  simp only [spec_FindNameK, spec_FindName, cond_bind', chk_bind', nnK_bind', getK_bind', getBK_bind', endK_bind', bind_bind', some_bind', none_bind', sum3K_1, sum3K_2, sum3K_3, sum2K_1, sum2K_2]

/-! cmp.isNaN(string) -/
noncomputable def cmp_isNaN_stringK {γ : Type} (x1 : ByteArray) (k : Bool → Option γ) : Option γ :=
  k (!(x1.toList == x1.toList))
noncomputable def cmp_isNaN_string (x1 : ByteArray) : Option (Bool) :=
  cmp_isNaN_stringK x1 some
theorem cmp_isNaN_string_eq {γ : Type} (x1 : ByteArray) (k : Bool → Option γ) : cmp_isNaN_stringK x1 k = (cmp_isNaN_string x1).bind k := by
  simp only [cmp_isNaN_stringK, cmp_isNaN_string, cond_bind', chk_bind', nnK_bind', getK_bind', getBK_bind', endK_bind', bind_bind', some_bind', none_bind', sum3K_1, sum3K_2, sum3K_3, sum2K_1, sum2K_2]

/-! cmp.Compare(string) -/
noncomputable def cmp_Compare_stringK {γ : Type} (x1 : ByteArray) (y2 : ByteArray) (k : Int → Option γ) : Option γ :=
  (cmp_isNaN_string x1).bind fun r3 =>
  (cmp_isNaN_string y2).bind fun r4 =>
  bif r3 then
    bif r4 then
      k (0 : Int)
    else
    k (-1 : Int)
  else
  bif r4 then
    k (1 : Int)
  else
  bif (Op.bytesLess x1.toList y2.toList) then
    k (-1 : Int)
  else
  bif (!(Op.bytesLess x1.toList y2.toList || (x1.toList == y2.toList))) then
    k (1 : Int)
  else
  k (0 : Int)
noncomputable def cmp_Compare_string (x1 : ByteArray) (y2 : ByteArray) : Option (Int) :=
  cmp_Compare_stringK x1 y2 some
theorem cmp_Compare_string_eq {γ : Type} (x1 : ByteArray) (y2 : ByteArray) (k : Int → Option γ) : cmp_Compare_stringK x1 y2 k = (cmp_Compare_string x1 y2).bind k := by
  simp only [cmp_Compare_stringK, cmp_Compare_string, cond_bind', chk_bind', nnK_bind', getK_bind', getBK_bind', endK_bind', bind_bind', some_bind', none_bind', sum3K_1, sum3K_2, sum3K_3, sum2K_1, sum2K_2]

/-! loop.example/capkernel/impl.find$1 -/
noncomputable def impl_find_c1K {γ : Type} (x1 : DName) (sq2 : ByteArray) (k : Int → Option γ) : Option γ :=
  (cmp_Compare_string x1.1 sq2).bind fun r3 =>
  k r3
noncomputable def impl_find_c1 (x1 : DName) (sq2 : ByteArray) : Option (Int) :=
  impl_find_c1K x1 sq2 some
theorem impl_find_c1_eq {γ : Type} (x1 : DName) (sq2 : ByteArray) (k : Int → Option γ) : impl_find_c1K x1 sq2 k = (impl_find_c1 x1 sq2).bind k := by
  simp only [impl_find_c1K, impl_find_c1, cond_bind', chk_bind', nnK_bind', getK_bind', getBK_bind', endK_bind', bind_bind', some_bind', none_bind', sum3K_1, sum3K_2, sum3K_3, sum2K_1, sum2K_2]

/-! slices.BinarySearchFunc(()loop.example/capkernel/impl.Name,loop.example/capkernel/impl.Name,string) -/
noncomputable def slices_BinarySearchFunc_string_l0K {γ : Type} (x3 : (List DName)) (target4 : ByteArray) (n5 : Int) (i6 : Int) (j7 : Int) (kn : (List DName) × ByteArray × Int × Int × Int × Unit → Option γ) (kx : (List DName) × ByteArray × Int × Int × Unit → Option γ) : Option γ :=
  bif decide (i6 < j7) then
    nnK (IntKind.wrap .i64 ((Int.fdiv (IntKind.wrap .u64 ((IntKind.wrap .i64 (i6 + j7)))) (2 ^ (min ((1 : Int)).toNat 64))))) fun i8 =>
    getK x3 i8 fun v9 =>
    (impl_find_c1 v9 target4).bind fun r10 =>
    bif decide (r10 < (0 : Int)) then
      kn (x3, target4, n5, (IntKind.wrap .i64 ((IntKind.wrap .i64 ((Int.fdiv (IntKind.wrap .u64 ((IntKind.wrap .i64 (i6 + j7)))) (2 ^ (min ((1 : Int)).toNat 64))))) + (1 : Int))), j7, ())
    else
    kn (x3, target4, n5, i6, (IntKind.wrap .i64 ((Int.fdiv (IntKind.wrap .u64 ((IntKind.wrap .i64 (i6 + j7)))) (2 ^ (min ((1 : Int)).toNat 64))))), ())
  else
  kx (x3, target4, n5, i6, ())
noncomputable def slices_BinarySearchFunc_string_l0 (x : (List DName) × ByteArray × Int × Int × Int × Unit) : Option (((List DName) × ByteArray × Int × Int × Int × Unit) ⊕ ((List DName) × ByteArray × Int × Int × Unit)) :=
  slices_BinarySearchFunc_string_l0K x.1 x.2.1 x.2.2.1 x.2.2.2.1 x.2.2.2.2.1 (fun y => some (.inl y)) (fun a => some (.inr a))
theorem slices_BinarySearchFunc_string_l0_eq {γ : Type} (x3 : (List DName)) (target4 : ByteArray) (n5 : Int) (i6 : Int) (j7 : Int) (kn : (List DName) × ByteArray × Int × Int × Int × Unit → Option γ) (kx : (List DName) × ByteArray × Int × Int × Unit → Option γ) : slices_BinarySearchFunc_string_l0K x3 target4 n5 i6 j7 kn kx = (slices_BinarySearchFunc_string_l0 (x3, target4, n5, i6, j7, ())).bind fun r => sum2K r kn kx := by
  simp only [slices_BinarySearchFunc_string_l0K, slices_BinarySearchFunc_string_l0, cond_bind', chk_bind', nnK_bind', getK_bind', getBK_bind', endK_bind', bind_bind', some_bind', none_bind', sum3K_1, sum3K_2, sum3K_3, sum2K_1, sum2K_2]
noncomputable def slices_BinarySearchFunc_stringK {γ : Type} (x1 : (List DName)) (target2 : ByteArray) (k : Int × Bool → Option γ) : Option γ :=
  (loopF slices_BinarySearchFunc_string_l0 (x1, target2, (x1.length : Int), (0 : Int), (x1.length : Int), ())).bind fun z11 =>
  bif decide (z11.2.2.2.1 < z11.2.2.1) then
    nnK z11.2.2.2.1 fun i12 =>
    getK z11.1 i12 fun v13 =>
    (impl_find_c1 v13 z11.2.1).bind fun r14 =>
    k (z11.2.2.2.1, (r14 == (0 : Int)))
  else
  k (z11.2.2.2.1, false)
noncomputable def slices_BinarySearchFunc_string (x1 : (List DName)) (target2 : ByteArray) : Option (Int × Bool) :=
  slices_BinarySearchFunc_stringK x1 target2 some
theorem slices_BinarySearchFunc_string_eq {γ : Type} (x1 : (List DName)) (target2 : ByteArray) (k : Int × Bool → Option γ) : slices_BinarySearchFunc_stringK x1 target2 k = (slices_BinarySearchFunc_string x1 target2).bind k := by
  simp only [slices_BinarySearchFunc_stringK, slices_BinarySearchFunc_string, cond_bind', chk_bind', nnK_bind', getK_bind', getBK_bind', endK_bind', bind_bind', some_bind', none_bind', sum3K_1, sum3K_2, sum3K_3, sum2K_1, sum2K_2]

/-! loop.example/capkernel/impl.find -/
noncomputable def impl_findK {γ : Type} (list1 : (List DName)) (text2 : ByteArray) (k : Int × Bool → Option γ) : Option γ :=
  (slices_BinarySearchFunc_string list1 text2).bind fun r3 =>
  k (r3.1, r3.2)
noncomputable def impl_find (list1 : (List DName)) (text2 : ByteArray) : Option (Int × Bool) :=
  impl_findK list1 text2 some
theorem impl_find_eq {γ : Type} (list1 : (List DName)) (text2 : ByteArray) (k : Int × Bool → Option γ) : impl_findK list1 text2 k = (impl_find list1 text2).bind k := by
  simp only [impl_findK, impl_find, cond_bind', chk_bind', nnK_bind', getK_bind', getBK_bind', endK_bind', bind_bind', some_bind', none_bind', sum3K_1, sum3K_2, sum3K_3, sum2K_1, sum2K_2]

/-! loop.example/capkernel/impl.FindName -/
noncomputable def impl_FindNameK {γ : Type} (list1 : (List DName)) (text2 : ByteArray) (k : Int × Bool → Option γ) : Option γ :=
  (impl_NamesValid list1).bind fun r3 =>
  bif (!r3) then
    k ((0 : Int), false)
  else
  (impl_find list1 text2).bind fun r4 =>
  bif (!r4.2) then
    k ((0 : Int), false)
  else
  nnK r4.1 fun i5 =>
  getK list1 i5 fun v6 =>
  k (v6.2.2.1, true)
noncomputable def impl_FindName (list1 : (List DName)) (text2 : ByteArray) : Option (Int × Bool) :=
  impl_FindNameK list1 text2 some
theorem impl_FindName_eq {γ : Type} (list1 : (List DName)) (text2 : ByteArray) (k : Int × Bool → Option γ) : impl_FindNameK list1 text2 k = (impl_FindName list1 text2).bind k := by
  simp only [impl_FindNameK, impl_FindName, cond_bind', chk_bind', nnK_bind', getK_bind', getBK_bind', endK_bind', bind_bind', some_bind', none_bind', sum3K_1, sum3K_2, sum3K_3, sum2K_1, sum2K_2]

/-! loop.example/capkernel/laws.eqName -/
noncomputable def laws_eqNameK {γ : Type} (a1 : DName) (b2 : DName) (k : Bool → Option γ) : Option γ :=
  bif (!(a1.1.toList == b2.1.toList)) then
    k false
  else
  bif (a1.2.1 != b2.2.1) then
    k false
  else
  bif (a1.2.2.1 != b2.2.2.1) then
    k false
  else
  k true
noncomputable def laws_eqName (a1 : DName) (b2 : DName) : Option (Bool) :=
  laws_eqNameK a1 b2 some
theorem laws_eqName_eq {γ : Type} (a1 : DName) (b2 : DName) (k : Bool → Option γ) : laws_eqNameK a1 b2 k = (laws_eqName a1 b2).bind k := by
  simp only [laws_eqNameK, laws_eqName, cond_bind', chk_bind', nnK_bind', getK_bind', getBK_bind', endK_bind', bind_bind', some_bind', none_bind', sum3K_1, sum3K_2, sum3K_3, sum2K_1, sum2K_2]

/-! loop.example/capkernel/laws.eqNameS -/
noncomputable def laws_eqNameS_l0K {γ : Type} (a3 : (List DName)) (b4 : (List DName)) (i5 : Int) (kn : (List DName) × (List DName) × Int × Unit → Option γ) (kx : Unit → Option γ) (kr : Bool × Unit → Option γ) : Option γ :=
  bif decide (i5 < (a3.length : Int)) then
    nnK i5 fun i6 =>
    getK a3 i6 fun v7 =>
    nnK i5 fun i8 =>
    getK b4 i8 fun v9 =>
    (laws_eqName v7 v9).bind fun r10 =>
    bif (!r10) then
      kr (false, ())
    else
    kn (a3, b4, (IntKind.wrap .i64 (i5 + (1 : Int))), ())
  else
  kx ()
noncomputable def laws_eqNameS_l0 (x : (List DName) × (List DName) × Int × Unit) : Option (((List DName) × (List DName) × Int × Unit) ⊕ ((Unit) ⊕ (Bool × Unit))) :=
  laws_eqNameS_l0K x.1 x.2.1 x.2.2.1 (fun y => some (.inl y)) (fun a => some (.inr (.inl a))) (fun b => some (.inr (.inr b)))
theorem laws_eqNameS_l0_eq {γ : Type} (a3 : (List DName)) (b4 : (List DName)) (i5 : Int) (kn : (List DName) × (List DName) × Int × Unit → Option γ) (kx : Unit → Option γ) (kr : Bool × Unit → Option γ) : laws_eqNameS_l0K a3 b4 i5 kn kx kr = (laws_eqNameS_l0 (a3, b4, i5, ())).bind fun r => sum3K r kn kx kr := by
  simp only [laws_eqNameS_l0K, laws_eqNameS_l0, cond_bind', chk_bind', nnK_bind', getK_bind', getBK_bind', endK_bind', bind_bind', some_bind', none_bind', sum3K_1, sum3K_2, sum3K_3, sum2K_1, sum2K_2]
noncomputable def laws_eqNameSK {γ : Type} (a1 : (List DName)) (b2 : (List DName)) (k : Bool → Option γ) : Option γ :=
  bif ((a1.length : Int) != (b2.length : Int)) then
    k false
  else
  (loopF laws_eqNameS_l0 (a1, b2, (0 : Int), ())).bind fun q => endK q (fun z11 =>
    k true) (fun z12 =>
    k z12.1)
noncomputable def laws_eqNameS (a1 : (List DName)) (b2 : (List DName)) : Option (Bool) :=
  laws_eqNameSK a1 b2 some
theorem laws_eqNameS_eq {γ : Type} (a1 : (List DName)) (b2 : (List DName)) (k : Bool → Option γ) : laws_eqNameSK a1 b2 k = (laws_eqNameS a1 b2).bind k := by
  simp only [laws_eqNameSK, laws_eqNameS, cond_bind', chk_bind', nnK_bind', getK_bind', getBK_bind', endK_bind', bind_bind', some_bind', none_bind', sum3K_1, sum3K_2, sum3K_3, sum2K_1, sum2K_2]

/-! loop.example/capkernel/laws.FnExactFindName -/
noncomputable def laws_FnExactFindNameK {γ : Type} (aList1 : (List DName)) (aText2 : ByteArray) (k : Bool → Option γ) : Option γ :=
  bif decide ((aText2.size : Int) > (1048576 : Int)) then
    k true
  else
  (laws_szNameS aList1 (1048576 : Int)).bind fun r3 =>
  bif decide (r3 < (0 : Int)) then
    k true
  else
  (laws_toNameS aList1).bind fun r4 =>
  (spec_FindName r4 aText2).bind fun r5 =>
  (laws_toNameS aList1).bind fun r6 =>
  (impl_FindName r6 aText2).bind fun r7 =>
  bif (!(r7.1 != r5.1)) then
    bif (!(r7.2 == r5.2)) then
      k false
    else
    (laws_toNameS aList1).bind fun r8 =>
    (laws_eqNameS r6 r8).bind fun r9 =>
    bif (!r9) then
      k false
    else
    k true
  else
  k false
noncomputable def laws_FnExactFindName (aList1 : (List DName)) (aText2 : ByteArray) : Option (Bool) :=
  laws_FnExactFindNameK aList1 aText2 some
theorem laws_FnExactFindName_eq {γ : Type} (aList1 : (List DName)) (aText2 : ByteArray) (k : Bool → Option γ) : laws_FnExactFindNameK aList1 aText2 k = (laws_FnExactFindName aList1 aText2).bind k := by
  simp only [laws_FnExactFindNameK, laws_FnExactFindName, cond_bind', chk_bind', nnK_bind', getK_bind', getBK_bind', endK_bind', bind_bind', some_bind', none_bind', sum3K_1, sum3K_2, sum3K_3, sum2K_1, sum2K_2]

/-! loop.example/capkernel/spec.DropNames -/
noncomputable def spec_DropNames_l0K {γ : Type} (list4 : (List DName)) (owner5 : Int) (kq6 : Int) (b7 : (List DName)) (kn : (List DName) × Int × Int × (List DName) × Unit → Option γ) (kx : (List DName) × (List DName) × Unit → Option γ) : Option γ :=
  bif decide (kq6 < (list4.length : Int)) then
    nnK kq6 fun i8 =>
    getK list4 i8 fun v9 =>
    bif (v9.2.1 != owner5) then
      nnK kq6 fun i10 =>
      getK list4 i10 fun v11 =>
      chk ((b7.length + 1) ≤ bigRow) <|
      kn (list4, owner5, (IntKind.wrap .i64 (kq6 + (1 : Int))), (b7 ++ [v11]), ())
    else
    kn (list4, owner5, (IntKind.wrap .i64 (kq6 + (1 : Int))), b7, ())
  else
  kx (list4, b7, ())
noncomputable def spec_DropNames_l0 (x : (List DName) × Int × Int × (List DName) × Unit) : Option (((List DName) × Int × Int × (List DName) × Unit) ⊕ ((List DName) × (List DName) × Unit)) :=
  spec_DropNames_l0K x.1 x.2.1 x.2.2.1 x.2.2.2.1 (fun y => some (.inl y)) (fun a => some (.inr a))
theorem spec_DropNames_l0_eq {γ : Type} (list4 : (List DName)) (owner5 : Int) (kq6 : Int) (b7 : (List DName)) (kn : (List DName) × Int × Int × (List DName) × Unit → Option γ) (kx : (List DName) × (List DName) × Unit → Option γ) : spec_DropNames_l0K list4 owner5 kq6 b7 kn kx = (spec_DropNames_l0 (list4, owner5, kq6, b7, ())).bind fun r => sum2K r kn kx := by
  simp only [spec_DropNames_l0K, spec_DropNames_l0, cond_bind', chk_bind', nnK_bind', getK_bind', getBK_bind', endK_bind', bind_bind', some_bind', none_bind', sum3K_1, sum3K_2, sum3K_3, sum2K_1, sum2K_2]
noncomputable def spec_DropNamesK {γ : Type} (list1 : (List DName)) (owner2 : Int) (k : Int × (List DName) → Option γ) : Option γ :=
  (spec_NamesValid list1).bind fun r3 =>
  bif (!r3) then
    k ((0 : Int), [])
  else
  (loopF spec_DropNames_l0 (list1, owner2, (0 : Int), [], ())).bind fun z12 =>
  k ((IntKind.wrap .i64 ((z12.1.length : Int) - (z12.2.1.length : Int))), z12.2.1)
noncomputable def spec_DropNames (list1 : (List DName)) (owner2 : Int) : Option (Int × (List DName)) :=
  spec_DropNamesK list1 owner2 some
theorem spec_DropNames_eq {γ : Type} (list1 : (List DName)) (owner2 : Int) (k : Int × (List DName) → Option γ) : spec_DropNamesK list1 owner2 k = (spec_DropNames list1 owner2).bind k := by
  simp only [spec_DropNamesK, spec_DropNames, cond_bind', chk_bind', nnK_bind', getK_bind', getBK_bind', endK_bind', bind_bind', some_bind', none_bind', sum3K_1, sum3K_2, sum3K_3, sum2K_1, sum2K_2]

/-! slices.Clone(()loop.example/capkernel/impl.Name,loop.example/capkernel/impl.Name) -/
noncomputable def slices_Clone_NameR {γ : Type} (sq1 : (List DName)) (k : (List DName) → Option γ) : Option γ :=
  bif sq1.isEmpty then both
    (k [])
    (chk (sq1.length ≤ bigRow) <|
    k sq1)
  else
  chk (sq1.length ≤ bigRow) <|
  k sq1
noncomputable def slices_Clone_NameK {γ : Type} (sq1 : (List DName)) (k : (List DName) → Option γ) : Option γ :=
  chk (sq1.length ≤ bigRow) (k sq1)
theorem slices_Clone_Name_raw {γ : Type} (sq1 : (List DName)) (k : (List DName) → Option γ) : slices_Clone_NameR sq1 k = slices_Clone_NameK sq1 k := by
  cases sq1 with
  | nil => simp [slices_Clone_NameR, slices_Clone_NameK, both, chk, bigRow]
  | cons a r => simp [slices_Clone_NameR, slices_Clone_NameK, chk]
noncomputable def slices_Clone_Name (sq1 : (List DName)) : Option ((List DName)) :=
  slices_Clone_NameK sq1 some
theorem slices_Clone_Name_eq {γ : Type} (sq1 : (List DName)) (k : (List DName) → Option γ) : slices_Clone_NameK sq1 k = (slices_Clone_Name sq1).bind k := by
  simp only [slices_Clone_NameK, slices_Clone_Name, cond_bind', chk_bind', nnK_bind', getK_bind', getBK_bind', endK_bind', bind_bind', some_bind', none_bind', sum3K_1, sum3K_2, sum3K_3, sum2K_1, sum2K_2]

/-! loop.example/capkernel/impl.DropNames$1 -/
noncomputable def impl_DropNames_c1K {γ : Type} (x1 : DName) (p2 : Int) (k : Bool → Option γ) : Option γ :=
  k (x1.2.1 == p2)
noncomputable def impl_DropNames_c1 (x1 : DName) (p2 : Int) : Option (Bool) :=
  impl_DropNames_c1K x1 p2 some
theorem impl_DropNames_c1_eq {γ : Type} (x1 : DName) (p2 : Int) (k : Bool → Option γ) : impl_DropNames_c1K x1 p2 k = (impl_DropNames_c1 x1 p2).bind k := by
  simp only [impl_DropNames_c1K, impl_DropNames_c1, cond_bind', chk_bind', nnK_bind', getK_bind', getBK_bind', endK_bind', bind_bind', some_bind', none_bind', sum3K_1, sum3K_2, sum3K_3, sum2K_1, sum2K_2]

/-! slices.IndexFunc(()loop.example/capkernel/impl.Name,loop.example/capkernel/impl.Name) -/
noncomputable def slices_IndexFunc_Name_l0K {γ : Type} (sq3 : (List DName)) (f4 : Int) (a5 : Int) (a6 : Int) (kn : (List DName) × Int × Int × Int × Unit → Option γ) (kx : Unit → Option γ) (kr : Int × Unit → Option γ) : Option γ :=
  bif decide (a6 < a5) then
    nnK a6 fun i7 =>
    getK sq3 i7 fun v8 =>
    (impl_DropNames_c1 v8 f4).bind fun r9 =>
    bif r9 then
      kr (a6, ())
    else
    kn (sq3, f4, a5, (IntKind.wrap .i64 (a6 + (1 : Int))), ())
  else
  kx ()
noncomputable def slices_IndexFunc_Name_l0 (x : (List DName) × Int × Int × Int × Unit) : Option (((List DName) × Int × Int × Int × Unit) ⊕ ((Unit) ⊕ (Int × Unit))) :=
  slices_IndexFunc_Name_l0K x.1 x.2.1 x.2.2.1 x.2.2.2.1 (fun y => some (.inl y)) (fun a => some (.inr (.inl a))) (fun b => some (.inr (.inr b)))
theorem slices_IndexFunc_Name_l0_eq {γ : Type} (sq3 : (List DName)) (f4 : Int) (a5 : Int) (a6 : Int) (kn : (List DName) × Int × Int × Int × Unit → Option γ) (kx : Unit → Option γ) (kr : Int × Unit → Option γ) : slices_IndexFunc_Name_l0K sq3 f4 a5 a6 kn kx kr = (slices_IndexFunc_Name_l0 (sq3, f4, a5, a6, ())).bind fun r => sum3K r kn kx kr := by
  simp only [slices_IndexFunc_Name_l0K, slices_IndexFunc_Name_l0, cond_bind', chk_bind', nnK_bind', getK_bind', getBK_bind', endK_bind', bind_bind', some_bind', none_bind', sum3K_1, sum3K_2, sum3K_3, sum2K_1, sum2K_2]
noncomputable def slices_IndexFunc_NameK {γ : Type} (sq1 : (List DName)) (f2 : Int) (k : Int → Option γ) : Option γ :=
  (loopF slices_IndexFunc_Name_l0 (sq1, f2, (sq1.length : Int), (0 : Int), ())).bind fun q => endK q (fun z10 =>
    k (-1 : Int)) (fun z11 =>
    k z11.1)
noncomputable def slices_IndexFunc_Name (sq1 : (List DName)) (f2 : Int) : Option (Int) :=
  slices_IndexFunc_NameK sq1 f2 some
theorem slices_IndexFunc_Name_eq {γ : Type} (sq1 : (List DName)) (f2 : Int) (k : Int → Option γ) : slices_IndexFunc_NameK sq1 f2 k = (slices_IndexFunc_Name sq1 f2).bind k := by
  simp only [slices_IndexFunc_NameK, slices_IndexFunc_Name, cond_bind', chk_bind', nnK_bind', getK_bind', getBK_bind', endK_bind', bind_bind', some_bind', none_bind', sum3K_1, sum3K_2, sum3K_3, sum2K_1, sum2K_2]

/-! slices.DeleteFunc(()loop.example/capkernel/impl.Name,loop.example/capkernel/impl.Name) -/
noncomputable def slices_DeleteFunc_Name_l0K {γ : Type} (del4 : Int) (i5 : Int) (j6 : Int) (b7 : (List DName)) (kn : Int × Int × Int × (List DName) × Unit → Option γ) (kx : Int × (List DName) × Unit → Option γ) : Option γ :=
  bif decide (j6 < (b7.length : Int)) then
    nnK j6 fun i8 =>
    chk (i8 < b7.length) <|
    getK b7 i8 fun v9 =>
    (impl_DropNames_c1 (v9.1, v9.2.1, v9.2.2.1, ()) del4).bind fun r10 =>
    bif (!r10) then
      nnK i5 fun i11 =>
      chk (i11 < b7.length) <|
      getK b7 i11 fun y12 =>
      kn (del4, (IntKind.wrap .i64 (i5 + (1 : Int))), (IntKind.wrap .i64 (j6 + (1 : Int))), (b7.set i11 (v9.1, v9.2.1, v9.2.2.1, ())), ())
    else
    kn (del4, i5, (IntKind.wrap .i64 (j6 + (1 : Int))), b7, ())
  else
  kx (i5, b7, ())
noncomputable def slices_DeleteFunc_Name_l0 (x : Int × Int × Int × (List DName) × Unit) : Option ((Int × Int × Int × (List DName) × Unit) ⊕ (Int × (List DName) × Unit)) :=
  slices_DeleteFunc_Name_l0K x.1 x.2.1 x.2.2.1 x.2.2.2.1 (fun y => some (.inl y)) (fun a => some (.inr a))
theorem slices_DeleteFunc_Name_l0_eq {γ : Type} (del4 : Int) (i5 : Int) (j6 : Int) (b7 : (List DName)) (kn : Int × Int × Int × (List DName) × Unit → Option γ) (kx : Int × (List DName) × Unit → Option γ) : slices_DeleteFunc_Name_l0K del4 i5 j6 b7 kn kx = (slices_DeleteFunc_Name_l0 (del4, i5, j6, b7, ())).bind fun r => sum2K r kn kx := by
  simp only [slices_DeleteFunc_Name_l0K, slices_DeleteFunc_Name_l0, cond_bind', chk_bind', nnK_bind', getK_bind', getBK_bind', endK_bind', bind_bind', some_bind', none_bind', sum3K_1, sum3K_2, sum3K_3, sum2K_1, sum2K_2]
noncomputable def slices_DeleteFunc_NameK {γ : Type} (del1 : Int) (b2 : (List DName)) (k : Nat × (List DName) → Option γ) : Option γ :=
  (slices_IndexFunc_Name b2 del1).bind fun r3 =>
  bif (r3 == (-1 : Int)) then
    k (b2.length, b2)
  else
  (loopF slices_DeleteFunc_Name_l0 (del1, r3, (IntKind.wrap .i64 (r3 + (1 : Int))), b2, ())).bind fun z13 =>
  nnK z13.1 fun i14 =>
  chk (i14 ≤ z13.2.1.length) <|
  nnK z13.1 fun i15 =>
  chk (i15 ≤ (over z13.2.1 i14 (List.replicate (z13.2.1.length - i14) ((ByteArray.mk #[]), (0 : Int), (0 : Int), ()))).length) <|
  k (i15, (over z13.2.1 i14 (List.replicate (z13.2.1.length - i14) ((ByteArray.mk #[]), (0 : Int), (0 : Int), ()))))
noncomputable def slices_DeleteFunc_Name (del1 : Int) (b2 : (List DName)) : Option (Nat × (List DName)) :=
  slices_DeleteFunc_NameK del1 b2 some
theorem slices_DeleteFunc_Name_eq {γ : Type} (del1 : Int) (b2 : (List DName)) (k : Nat × (List DName) → Option γ) : slices_DeleteFunc_NameK del1 b2 k = (slices_DeleteFunc_Name del1 b2).bind k := by
  simp only [slices_DeleteFunc_NameK, slices_DeleteFunc_Name, cond_bind', chk_bind', nnK_bind', getK_bind', getBK_bind', endK_bind', bind_bind', some_bind', none_bind', sum3K_1, sum3K_2, sum3K_3, sum2K_1, sum2K_2]

/-! slices.Clip(()loop.example/capkernel/impl.Name,loop.example/capkernel/impl.Name) -/
noncomputable def slices_Clip_NameK {γ : Type} (sq1 : Nat) (b2 : (List DName)) (k : Nat × (List DName) → Option γ) : Option γ :=
  chk (0 ≤ sq1 ∧ sq1 ≤ sq1 ∧ sq1 ≤ sq1) <|
  chk (0 = 0 ∧ sq1 = sq1) <|
  k (sq1, b2)
noncomputable def slices_Clip_Name (sq1 : Nat) (b2 : (List DName)) : Option (Nat × (List DName)) :=
  slices_Clip_NameK sq1 b2 some
theorem slices_Clip_Name_eq {γ : Type} (sq1 : Nat) (b2 : (List DName)) (k : Nat × (List DName) → Option γ) : slices_Clip_NameK sq1 b2 k = (slices_Clip_Name sq1 b2).bind k := by
  simp only [slices_Clip_NameK, slices_Clip_Name, cond_bind', chk_bind', nnK_bind', getK_bind', getBK_bind', endK_bind', bind_bind', some_bind', none_bind', sum3K_1, sum3K_2, sum3K_3, sum2K_1, sum2K_2]

/-! loop.example/capkernel/impl.DropNames -/
noncomputable def impl_DropNamesK {γ : Type} (list1 : (List DName)) (owner2 : Int) (k : Nat × Int × (List DName) → Option γ) : Option γ :=
  (impl_NamesValid list1).bind fun r3 =>
  bif (!r3) then
    k (0, (0 : Int), [])
  else
  (slices_Clone_Name list1).bind fun r4 =>
  (slices_DeleteFunc_Name owner2 r4).bind fun r5 =>
  (slices_Clip_Name r5.1 r5.2).bind fun r6 =>
  k (r6.1, (IntKind.wrap .i64 ((list1.length : Int) - (r6.1 : Int))), r6.2)
noncomputable def impl_DropNames (list1 : (List DName)) (owner2 : Int) : Option (Nat × Int × (List DName)) :=
  impl_DropNamesK list1 owner2 some
theorem impl_DropNames_eq {γ : Type} (list1 : (List DName)) (owner2 : Int) (k : Nat × Int × (List DName) → Option γ) : impl_DropNamesK list1 owner2 k = (impl_DropNames list1 owner2).bind k := by
  simp only [impl_DropNamesK, impl_DropNames, cond_bind', chk_bind', nnK_bind', getK_bind', getBK_bind', endK_bind', bind_bind', some_bind', none_bind', sum3K_1, sum3K_2, sum3K_3, sum2K_1, sum2K_2]

/-! loop.example/capkernel/laws.markText -/
noncomputable def laws_markText_l0K {γ : Type} (kq2 : Int) (out3 : ByteArray) (kn : Int × ByteArray × Unit → Option γ) (kx : ByteArray × Unit → Option γ) : Option γ :=
  bif decide (kq2 > (0 : Int)) then
    chk ((((bytesV [(IntKind.wrap .u8 ((IntKind.wrap .i64 ((48 : Int) + (Int.tmod kq2 (10 : Int))))))]).size + out3.size : Nat) : Int) ≤ 9223372036854775807) <|
    kn ((IntKind.wrap .i64 (Int.tdiv kq2 (10 : Int))), ((bytesV [(IntKind.wrap .u8 ((IntKind.wrap .i64 ((48 : Int) + (Int.tmod kq2 (10 : Int))))))]) ++ out3), ())
  else
  kx (out3, ())
noncomputable def laws_markText_l0 (x : Int × ByteArray × Unit) : Option ((Int × ByteArray × Unit) ⊕ (ByteArray × Unit)) :=
  laws_markText_l0K x.1 x.2.1 (fun y => some (.inl y)) (fun a => some (.inr a))
theorem laws_markText_l0_eq {γ : Type} (kq2 : Int) (out3 : ByteArray) (kn : Int × ByteArray × Unit → Option γ) (kx : ByteArray × Unit → Option γ) : laws_markText_l0K kq2 out3 kn kx = (laws_markText_l0 (kq2, out3, ())).bind fun r => sum2K r kn kx := by
  simp only [laws_markText_l0K, laws_markText_l0, cond_bind', chk_bind', nnK_bind', getK_bind', getBK_bind', endK_bind', bind_bind', some_bind', none_bind', sum3K_1, sum3K_2, sum3K_3, sum2K_1, sum2K_2]
noncomputable def laws_markTextK {γ : Type} (kq1 : Int) (k : ByteArray → Option γ) : Option γ :=
  bif decide (kq1 ≤ (0 : Int)) then
    k (ByteArray.mk #[109, 48])
  else
  (loopF laws_markText_l0 (kq1, (ByteArray.mk #[]), ())).bind fun z4 =>
  chk ((((ByteArray.mk #[109]).size + z4.1.size : Nat) : Int) ≤ 9223372036854775807) <|
  k ((ByteArray.mk #[109]) ++ z4.1)
noncomputable def laws_markText (kq1 : Int) : Option (ByteArray) :=
  laws_markTextK kq1 some
theorem laws_markText_eq {γ : Type} (kq1 : Int) (k : ByteArray → Option γ) : laws_markTextK kq1 k = (laws_markText kq1).bind k := by
  simp only [laws_markTextK, laws_markText, cond_bind', chk_bind', nnK_bind', getK_bind', getBK_bind', endK_bind', bind_bind', some_bind', none_bind', sum3K_1, sum3K_2, sum3K_3, sum2K_1, sum2K_2]

/-! loop.example/capkernel/laws.markNameS -/
noncomputable def laws_markNameS_l0K {γ : Type} (kq3 : Int) (i4 : Int) (b5 : (List DName)) (kn : Int × Int × (List DName) × Unit → Option γ) (kx : Int × (List DName) × Unit → Option γ) : Option γ :=
  bif decide (i4 < (b5.length : Int)) then
    (laws_markText kq3).bind fun r6 =>
    nnK i4 fun i7 =>
    chk (i7 < b5.length) <|
    getK b5 i7 fun y8 =>
    nnK i4 fun i9 =>
    chk (i9 < (b5.set i7 (r6, y8.2.1, y8.2.2.1, ())).length) <|
    getK (b5.set i7 (r6, y8.2.1, y8.2.2.1, ())) i9 fun y10 =>
    nnK i4 fun i11 =>
    chk (i11 < ((b5.set i7 (r6, y8.2.1, y8.2.2.1, ())).set i9 (y10.1, (IntKind.wrap .i64 (kq3 + (1 : Int))), y10.2.2.1, ())).length) <|
    getK ((b5.set i7 (r6, y8.2.1, y8.2.2.1, ())).set i9 (y10.1, (IntKind.wrap .i64 (kq3 + (1 : Int))), y10.2.2.1, ())) i11 fun y12 =>
    kn ((IntKind.wrap .i64 ((IntKind.wrap .i64 ((IntKind.wrap .i64 (kq3 + (1 : Int))) + (1 : Int))) + (1 : Int))), (IntKind.wrap .i64 (i4 + (1 : Int))), (((b5.set i7 (r6, y8.2.1, y8.2.2.1, ())).set i9 (y10.1, (IntKind.wrap .i64 (kq3 + (1 : Int))), y10.2.2.1, ())).set i11 (y12.1, y12.2.1, (IntKind.wrap .i64 ((IntKind.wrap .i64 (kq3 + (1 : Int))) + (1 : Int))), ())), ())
  else
  kx (kq3, b5, ())
noncomputable def laws_markNameS_l0 (x : Int × Int × (List DName) × Unit) : Option ((Int × Int × (List DName) × Unit) ⊕ (Int × (List DName) × Unit)) :=
  laws_markNameS_l0K x.1 x.2.1 x.2.2.1 (fun y => some (.inl y)) (fun a => some (.inr a))
theorem laws_markNameS_l0_eq {γ : Type} (kq3 : Int) (i4 : Int) (b5 : (List DName)) (kn : Int × Int × (List DName) × Unit → Option γ) (kx : Int × (List DName) × Unit → Option γ) : laws_markNameS_l0K kq3 i4 b5 kn kx = (laws_markNameS_l0 (kq3, i4, b5, ())).bind fun r => sum2K r kn kx := by
  simp only [laws_markNameS_l0K, laws_markNameS_l0, cond_bind', chk_bind', nnK_bind', getK_bind', getBK_bind', endK_bind', bind_bind', some_bind', none_bind', sum3K_1, sum3K_2, sum3K_3, sum2K_1, sum2K_2]
noncomputable def laws_markNameSK {γ : Type} (kq1 : Int) (b2 : (List DName)) (k : Int × (List DName) → Option γ) : Option γ :=
  (loopF laws_markNameS_l0 (kq1, (0 : Int), b2, ())).bind fun z13 =>
  k (z13.1, z13.2.1)
noncomputable def laws_markNameS (kq1 : Int) (b2 : (List DName)) : Option (Int × (List DName)) :=
  laws_markNameSK kq1 b2 some
theorem laws_markNameS_eq {γ : Type} (kq1 : Int) (b2 : (List DName)) (k : Int × (List DName) → Option γ) : laws_markNameSK kq1 b2 k = (laws_markNameS kq1 b2).bind k := by
  simp only [laws_markNameSK, laws_markNameS, cond_bind', chk_bind', nnK_bind', getK_bind', getBK_bind', endK_bind', bind_bind', some_bind', none_bind', sum3K_1, sum3K_2, sum3K_3, sum2K_1, sum2K_2]

/-! loop.example/capkernel/laws.markNameS -/
noncomputable def laws_markNameS_v2_l0K {γ : Type} (a5 : Nat) (a6 : Nat) (kq7 : Int) (i8 : Int) (b9 : (List DName)) (kn : Nat × Nat × Int × Int × (List DName) × Unit → Option γ) (kx : Int × (List DName) × Unit → Option γ) : Option γ :=
  bif decide (i8 < (a5 : Int)) then
    (laws_markText kq7).bind fun r10 =>
    nnK i8 fun i11 =>
    chk (i11 < a5) <|
    getK b9 (0 + i11) fun y12 =>
    nnK i8 fun i13 =>
    chk (i13 < a5) <|
    getK (b9.set (0 + i11) (r10, y12.2.1, y12.2.2.1, ())) (0 + i13) fun y14 =>
    nnK i8 fun i15 =>
    chk (i15 < a5) <|
    getK ((b9.set (0 + i11) (r10, y12.2.1, y12.2.2.1, ())).set (0 + i13) (y14.1, (IntKind.wrap .i64 (kq7 + (1 : Int))), y14.2.2.1, ())) (0 + i15) fun y16 =>
    kn (a5, a6, (IntKind.wrap .i64 ((IntKind.wrap .i64 ((IntKind.wrap .i64 (kq7 + (1 : Int))) + (1 : Int))) + (1 : Int))), (IntKind.wrap .i64 (i8 + (1 : Int))), (((b9.set (0 + i11) (r10, y12.2.1, y12.2.2.1, ())).set (0 + i13) (y14.1, (IntKind.wrap .i64 (kq7 + (1 : Int))), y14.2.2.1, ())).set (0 + i15) (y16.1, y16.2.1, (IntKind.wrap .i64 ((IntKind.wrap .i64 (kq7 + (1 : Int))) + (1 : Int))), ())), ())
  else
  kx (kq7, b9, ())
noncomputable def laws_markNameS_v2_l0 (x : Nat × Nat × Int × Int × (List DName) × Unit) : Option ((Nat × Nat × Int × Int × (List DName) × Unit) ⊕ (Int × (List DName) × Unit)) :=
  laws_markNameS_v2_l0K x.1 x.2.1 x.2.2.1 x.2.2.2.1 x.2.2.2.2.1 (fun y => some (.inl y)) (fun a => some (.inr a))
theorem laws_markNameS_v2_l0_eq {γ : Type} (a5 : Nat) (a6 : Nat) (kq7 : Int) (i8 : Int) (b9 : (List DName)) (kn : Nat × Nat × Int × Int × (List DName) × Unit → Option γ) (kx : Int × (List DName) × Unit → Option γ) : laws_markNameS_v2_l0K a5 a6 kq7 i8 b9 kn kx = (laws_markNameS_v2_l0 (a5, a6, kq7, i8, b9, ())).bind fun r => sum2K r kn kx := by
  simp only [laws_markNameS_v2_l0K, laws_markNameS_v2_l0, cond_bind', chk_bind', nnK_bind', getK_bind', getBK_bind', endK_bind', bind_bind', some_bind', none_bind', sum3K_1, sum3K_2, sum3K_3, sum2K_1, sum2K_2]
noncomputable def laws_markNameS_v2K {γ : Type} (a1 : Nat) (a2 : Nat) (kq3 : Int) (b4 : (List DName)) (k : Int × (List DName) → Option γ) : Option γ :=
  (loopF laws_markNameS_v2_l0 (a1, a2, kq3, (0 : Int), b4, ())).bind fun z17 =>
  k (z17.1, z17.2.1)
noncomputable def laws_markNameS_v2 (a1 : Nat) (a2 : Nat) (kq3 : Int) (b4 : (List DName)) : Option (Int × (List DName)) :=
  laws_markNameS_v2K a1 a2 kq3 b4 some
theorem laws_markNameS_v2_eq {γ : Type} (a1 : Nat) (a2 : Nat) (kq3 : Int) (b4 : (List DName)) (k : Int × (List DName) → Option γ) : laws_markNameS_v2K a1 a2 kq3 b4 k = (laws_markNameS_v2 a1 a2 kq3 b4).bind k := by
  simp only [laws_markNameS_v2K, laws_markNameS_v2, cond_bind', chk_bind', nnK_bind', getK_bind', getBK_bind', endK_bind', bind_bind', some_bind', none_bind', sum3K_1, sum3K_2, sum3K_3, sum2K_1, sum2K_2]

/-! loop.example/capkernel/laws.heldNameS -/
noncomputable def laws_heldNameS_l0K {γ : Type} (a3 : (List DName)) (kq4 : Int) (i5 : Int) (kn : (List DName) × Int × Int × Unit → Option γ) (kx : Int × Unit → Option γ) (kr : Int × Unit → Option γ) : Option γ :=
  bif decide (i5 < (a3.length : Int)) then
    nnK i5 fun i6 =>
    getK a3 i6 fun v7 =>
    (laws_markText kq4).bind fun r8 =>
    bif (!(v7.1.toList == r8.toList)) then
      kr ((-1 : Int), ())
    else
    nnK i5 fun i9 =>
    getK a3 i9 fun v10 =>
    bif (v10.2.1 != (IntKind.wrap .i64 (kq4 + (1 : Int)))) then
      kr ((-1 : Int), ())
    else
    nnK i5 fun i11 =>
    getK a3 i11 fun v12 =>
    bif (v12.2.2.1 != (IntKind.wrap .i64 ((IntKind.wrap .i64 (kq4 + (1 : Int))) + (1 : Int)))) then
      kr ((-1 : Int), ())
    else
    kn (a3, (IntKind.wrap .i64 ((IntKind.wrap .i64 ((IntKind.wrap .i64 (kq4 + (1 : Int))) + (1 : Int))) + (1 : Int))), (IntKind.wrap .i64 (i5 + (1 : Int))), ())
  else
  kx (kq4, ())
noncomputable def laws_heldNameS_l0 (x : (List DName) × Int × Int × Unit) : Option (((List DName) × Int × Int × Unit) ⊕ ((Int × Unit) ⊕ (Int × Unit))) :=
  laws_heldNameS_l0K x.1 x.2.1 x.2.2.1 (fun y => some (.inl y)) (fun a => some (.inr (.inl a))) (fun b => some (.inr (.inr b)))
theorem laws_heldNameS_l0_eq {γ : Type} (a3 : (List DName)) (kq4 : Int) (i5 : Int) (kn : (List DName) × Int × Int × Unit → Option γ) (kx : Int × Unit → Option γ) (kr : Int × Unit → Option γ) : laws_heldNameS_l0K a3 kq4 i5 kn kx kr = (laws_heldNameS_l0 (a3, kq4, i5, ())).bind fun r => sum3K r kn kx kr := by
  simp only [laws_heldNameS_l0K, laws_heldNameS_l0, cond_bind', chk_bind', nnK_bind', getK_bind', getBK_bind', endK_bind', bind_bind', some_bind', none_bind', sum3K_1, sum3K_2, sum3K_3, sum2K_1, sum2K_2]
noncomputable def laws_heldNameSK {γ : Type} (a1 : (List DName)) (kq2 : Int) (k : Int → Option γ) : Option γ :=
  (loopF laws_heldNameS_l0 (a1, kq2, (0 : Int), ())).bind fun q => endK q (fun z13 =>
    k z13.1) (fun z14 =>
    k z14.1)
noncomputable def laws_heldNameS (a1 : (List DName)) (kq2 : Int) : Option (Int) :=
  laws_heldNameSK a1 kq2 some
theorem laws_heldNameS_eq {γ : Type} (a1 : (List DName)) (kq2 : Int) (k : Int → Option γ) : laws_heldNameSK a1 kq2 k = (laws_heldNameS a1 kq2).bind k := by
  simp only [laws_heldNameSK, laws_heldNameS, cond_bind', chk_bind', nnK_bind', getK_bind', getBK_bind', endK_bind', bind_bind', some_bind', none_bind', sum3K_1, sum3K_2, sum3K_3, sum2K_1, sum2K_2]

/-! loop.example/capkernel/laws.FnExactDropNames -/
noncomputable def laws_FnExactDropNamesK {γ : Type} (aList1 : (List DName)) (aOwner2 : Int) (k : Bool → Option γ) : Option γ :=
  (laws_szNameS aList1 (1048576 : Int)).bind fun r3 =>
  bif decide (r3 < (0 : Int)) then
    k true
  else
  (laws_toNameS aList1).bind fun r4 =>
  (spec_DropNames r4 aOwner2).bind fun r5 =>
  (laws_toNameS aList1).bind fun r6 =>
  (impl_DropNames r6 aOwner2).bind fun r7 =>
  (laws_eqNameS ((r7.2.2.drop 0).take r7.1) r5.2).bind fun r8 =>
  bif (!(!r8)) then
    bif (r7.2.1 != r5.1) then
      k false
    else
    (laws_toNameS aList1).bind fun r9 =>
    (laws_eqNameS r6 r9).bind fun r10 =>
    bif (!r10) then
      k false
    else
    (laws_markNameS (1 : Int) r6).bind fun r11 =>
    bif (!decide (r11.1 < (0 : Int))) then
      (laws_eqNameS ((r7.2.2.drop 0).take r7.1) r5.2).bind fun r12 =>
      bif (!(!r12)) then
        bif (r7.2.1 != r5.1) then
          k false
        else
        (laws_markNameS_v2 r7.1 r7.1 (1 : Int) r7.2.2).bind fun r13 =>
        (laws_heldNameS ((r13.2.drop 0).take r7.1) (1 : Int)).bind fun r14 =>
        bif decide (r14 < (0 : Int)) then
          k false
        else
        bif (r14 != r13.1) then
          k false
        else
        (laws_toNameS aList1).bind fun r15 =>
        (impl_DropNames r15 aOwner2).bind fun r16 =>
        (laws_eqNameS ((r16.2.2.drop 0).take r16.1) r5.2).bind fun r17 =>
        bif (!(!r17)) then
          bif (r16.2.1 != r5.1) then
            k false
          else
          (laws_heldNameS ((r13.2.drop 0).take r7.1) (1 : Int)).bind fun r18 =>
          bif decide (r18 < (0 : Int)) then
            k false
          else
          bif (r18 != r13.1) then
            k false
          else
          k true
        else
        k false
      else
      k false
    else
    k false
  else
  k false
noncomputable def laws_FnExactDropNames (aList1 : (List DName)) (aOwner2 : Int) : Option (Bool) :=
  laws_FnExactDropNamesK aList1 aOwner2 some
theorem laws_FnExactDropNames_eq {γ : Type} (aList1 : (List DName)) (aOwner2 : Int) (k : Bool → Option γ) : laws_FnExactDropNamesK aList1 aOwner2 k = (laws_FnExactDropNames aList1 aOwner2).bind k := by
  simp only [laws_FnExactDropNamesK, laws_FnExactDropNames, cond_bind', chk_bind', nnK_bind', getK_bind', getBK_bind', endK_bind', bind_bind', some_bind', none_bind', sum3K_1, sum3K_2, sum3K_3, sum2K_1, sum2K_2]

/-! loop.example/capkernel/spec.DrawFindName -/
noncomputable def spec_DrawFindNameK {γ : Type} (code1 : (List Int)) (k : ByteArray × (List DName) → Option γ) : Option γ :=
  (spec_l20Open code1).bind fun r2 =>
  (spec_l20Names (12 : Int) r2).bind fun r3 =>
  (spec_l20Text (9 : Int) r3.1).bind fun r4 =>
  k (r4.1, r3.2)
noncomputable def spec_DrawFindName (code1 : (List Int)) : Option (ByteArray × (List DName)) :=
  spec_DrawFindNameK code1 some
theorem spec_DrawFindName_eq {γ : Type} (code1 : (List Int)) (k : ByteArray × (List DName) → Option γ) : spec_DrawFindNameK code1 k = (spec_DrawFindName code1).bind k := by
  simp only [spec_DrawFindNameK, spec_DrawFindName, cond_bind', chk_bind', nnK_bind', getK_bind', getBK_bind', endK_bind', bind_bind', some_bind', none_bind', sum3K_1, sum3K_2, sum3K_3, sum2K_1, sum2K_2]

/-! loop.example/capkernel/laws.FnFindName -/
noncomputable def laws_FnFindName_l0K {γ : Type} (list5 : (List DName)) (text6 : ByteArray) (a7 : Int) (ok8 : Bool) (n9 : Int) (kq10 : Int) (kn : (List DName) × ByteArray × Int × Bool × Int × Int × Unit → Option γ) (kx : Int × Bool × Int × Unit → Option γ) (kr : Bool × Unit → Option γ) : Option γ :=
  bif decide (kq10 < (list5.length : Int)) then
    (spec_NamesValid list5).bind fun r11 =>
    bif r11 then
      nnK kq10 fun i12 =>
      getK list5 i12 fun v13 =>
      bif (v13.1.toList == text6.toList) then
        nnK kq10 fun i14 =>
        getK list5 i14 fun v15 =>
        bif (v15.2.2.1 != a7) then
          kr (false, ())
        else
        kn (list5, text6, a7, ok8, (IntKind.wrap .i64 (n9 + (1 : Int))), (IntKind.wrap .i64 (kq10 + (1 : Int))), ())
      else
      kn (list5, text6, a7, ok8, n9, (IntKind.wrap .i64 (kq10 + (1 : Int))), ())
    else
    kx (a7, ok8, n9, ())
  else
  kx (a7, ok8, n9, ())
noncomputable def laws_FnFindName_l0 (x : (List DName) × ByteArray × Int × Bool × Int × Int × Unit) : Option (((List DName) × ByteArray × Int × Bool × Int × Int × Unit) ⊕ ((Int × Bool × Int × Unit) ⊕ (Bool × Unit))) :=
  laws_FnFindName_l0K x.1 x.2.1 x.2.2.1 x.2.2.2.1 x.2.2.2.2.1 x.2.2.2.2.2.1 (fun y => some (.inl y)) (fun a => some (.inr (.inl a))) (fun b => some (.inr (.inr b)))
theorem laws_FnFindName_l0_eq {γ : Type} (list5 : (List DName)) (text6 : ByteArray) (a7 : Int) (ok8 : Bool) (n9 : Int) (kq10 : Int) (kn : (List DName) × ByteArray × Int × Bool × Int × Int × Unit → Option γ) (kx : Int × Bool × Int × Unit → Option γ) (kr : Bool × Unit → Option γ) : laws_FnFindName_l0K list5 text6 a7 ok8 n9 kq10 kn kx kr = (laws_FnFindName_l0 (list5, text6, a7, ok8, n9, kq10, ())).bind fun r => sum3K r kn kx kr := by
  simp only [laws_FnFindName_l0K, laws_FnFindName_l0, cond_bind', chk_bind', nnK_bind', getK_bind', getBK_bind', endK_bind', bind_bind', some_bind', none_bind', sum3K_1, sum3K_2, sum3K_3, sum2K_1, sum2K_2]
noncomputable def laws_FnFindNameK {γ : Type} (code1 : (List Int)) (k : Bool → Option γ) : Option γ :=
  bif decide ((code1.length : Int) > (1048576 : Int)) then
    k true
  else
  (spec_DrawFindName code1).bind fun r2 =>
  (impl_FindName r2.2 r2.1).bind fun r3 =>
  (spec_FindName r2.2 r2.1).bind fun r4 =>
  bif (!(r3.1 != r4.1)) then
    bif (!(r3.2 == r4.2)) then
      k false
    else
    (loopF laws_FnFindName_l0 (r2.2, r2.1, r3.1, r3.2, (0 : Int), (0 : Int), ())).bind fun q => endK q (fun z16 =>
      bif ((z16.2.1 == (z16.2.2.1 == (1 : Int)))) then
        bif decide (z16.2.2.1 ≤ (1 : Int)) then
          bif (!z16.2.1) then
            bif (z16.1 == (0 : Int)) then
              (laws_alive).bind fun r18 =>
              k r18
            else
            k false
          else
          (laws_alive).bind fun r19 =>
          k r19
        else
        k false
      else
      k false) (fun z17 =>
      k z17.1)
  else
  k false
noncomputable def laws_FnFindName (code1 : (List Int)) : Option (Bool) :=
  laws_FnFindNameK code1 some
theorem laws_FnFindName_eq {γ : Type} (code1 : (List Int)) (k : Bool → Option γ) : laws_FnFindNameK code1 k = (laws_FnFindName code1).bind k := by
  simp only [laws_FnFindNameK, laws_FnFindName, cond_bind', chk_bind', nnK_bind', getK_bind', getBK_bind', endK_bind', bind_bind', some_bind', none_bind', sum3K_1, sum3K_2, sum3K_3, sum2K_1, sum2K_2]

/-! loop.example/capkernel/spec.DrawDropNames -/
noncomputable def spec_DrawDropNamesK {γ : Type} (code1 : (List Int)) (k : Int × (List DName) → Option γ) : Option γ :=
  (spec_l20Open code1).bind fun r2 =>
  (spec_l20Names (12 : Int) r2).bind fun r3 =>
  (spec_l20Rd_pick (4 : Int) r3.1).bind fun r4 =>
  k (r4.1, r3.2)
noncomputable def spec_DrawDropNames (code1 : (List Int)) : Option (Int × (List DName)) :=
  spec_DrawDropNamesK code1 some
theorem spec_DrawDropNames_eq {γ : Type} (code1 : (List Int)) (k : Int × (List DName) → Option γ) : spec_DrawDropNamesK code1 k = (spec_DrawDropNames code1).bind k := by
  simp only [spec_DrawDropNamesK, spec_DrawDropNames, cond_bind', chk_bind', nnK_bind', getK_bind', getBK_bind', endK_bind', bind_bind', some_bind', none_bind', sum3K_1, sum3K_2, sum3K_3, sum2K_1, sum2K_2]

/-! loop.example/capkernel/laws.sameNames -/
noncomputable def laws_sameNames_l0K {γ : Type} (a3 : (List DName)) (b4 : (List DName)) (kq5 : Int) (kn : (List DName) × (List DName) × Int × Unit → Option γ) (kx : Unit → Option γ) (kr : Bool × Unit → Option γ) : Option γ :=
  bif decide (kq5 < (a3.length : Int)) then
    nnK kq5 fun i6 =>
    getK a3 i6 fun v7 =>
    nnK kq5 fun i8 =>
    getK b4 i8 fun v9 =>
    bif (!((v7.1.toList == v9.1.toList) && (decide (v7.2.1 = v9.2.1) && (decide (v7.2.2.1 = v9.2.2.1) && true)))) then
      kr (false, ())
    else
    kn (a3, b4, (IntKind.wrap .i64 (kq5 + (1 : Int))), ())
  else
  kx ()
noncomputable def laws_sameNames_l0 (x : (List DName) × (List DName) × Int × Unit) : Option (((List DName) × (List DName) × Int × Unit) ⊕ ((Unit) ⊕ (Bool × Unit))) :=
  laws_sameNames_l0K x.1 x.2.1 x.2.2.1 (fun y => some (.inl y)) (fun a => some (.inr (.inl a))) (fun b => some (.inr (.inr b)))
theorem laws_sameNames_l0_eq {γ : Type} (a3 : (List DName)) (b4 : (List DName)) (kq5 : Int) (kn : (List DName) × (List DName) × Int × Unit → Option γ) (kx : Unit → Option γ) (kr : Bool × Unit → Option γ) : laws_sameNames_l0K a3 b4 kq5 kn kx kr = (laws_sameNames_l0 (a3, b4, kq5, ())).bind fun r => sum3K r kn kx kr := by
  simp only [laws_sameNames_l0K, laws_sameNames_l0, cond_bind', chk_bind', nnK_bind', getK_bind', getBK_bind', endK_bind', bind_bind', some_bind', none_bind', sum3K_1, sum3K_2, sum3K_3, sum2K_1, sum2K_2]
noncomputable def laws_sameNamesK {γ : Type} (a1 : (List DName)) (b2 : (List DName)) (k : Bool → Option γ) : Option γ :=
  bif ((a1.length : Int) != (b2.length : Int)) then
    k false
  else
  (loopF laws_sameNames_l0 (a1, b2, (0 : Int), ())).bind fun q => endK q (fun z10 =>
    k true) (fun z11 =>
    k z11.1)
noncomputable def laws_sameNames (a1 : (List DName)) (b2 : (List DName)) : Option (Bool) :=
  laws_sameNamesK a1 b2 some
theorem laws_sameNames_eq {γ : Type} (a1 : (List DName)) (b2 : (List DName)) (k : Bool → Option γ) : laws_sameNamesK a1 b2 k = (laws_sameNames a1 b2).bind k := by
  simp only [laws_sameNamesK, laws_sameNames, cond_bind', chk_bind', nnK_bind', getK_bind', getBK_bind', endK_bind', bind_bind', some_bind', none_bind', sum3K_1, sum3K_2, sum3K_3, sum2K_1, sum2K_2]

/-! loop.example/capkernel/laws.FnDropNames -/
noncomputable def laws_FnDropNames_l0K {γ : Type} (list8 : (List DName)) (owner9 : Int) (x10 : (List DName)) (n11 : Int) (kq12 : Int) (kn : (List DName) × Int × (List DName) × Int × Int × Unit → Option γ) (kx : (List DName) × (List DName) × Int × Unit → Option γ) (kr : Bool × Unit → Option γ) : Option γ :=
  bif decide (kq12 < (list8.length : Int)) then
    nnK kq12 fun i13 =>
    getK list8 i13 fun v14 =>
    (impl_FindName x10 v14.1).bind fun r15 =>
    nnK kq12 fun i16 =>
    getK list8 i16 fun v17 =>
    bif (!(!(r15.2 == (v17.2.1 != owner9)))) then
      bif r15.2 then
        nnK kq12 fun i18 =>
        getK list8 i18 fun v19 =>
        bif (r15.1 != v19.2.2.1) then
          kr (false, ())
        else
        kn (list8, owner9, x10, n11, (IntKind.wrap .i64 (kq12 + (1 : Int))), ())
      else
      kn (list8, owner9, x10, n11, (IntKind.wrap .i64 (kq12 + (1 : Int))), ())
    else
    kr (false, ())
  else
  kx (list8, x10, n11, ())
noncomputable def laws_FnDropNames_l0 (x : (List DName) × Int × (List DName) × Int × Int × Unit) : Option (((List DName) × Int × (List DName) × Int × Int × Unit) ⊕ (((List DName) × (List DName) × Int × Unit) ⊕ (Bool × Unit))) :=
  laws_FnDropNames_l0K x.1 x.2.1 x.2.2.1 x.2.2.2.1 x.2.2.2.2.1 (fun y => some (.inl y)) (fun a => some (.inr (.inl a))) (fun b => some (.inr (.inr b)))
theorem laws_FnDropNames_l0_eq {γ : Type} (list8 : (List DName)) (owner9 : Int) (x10 : (List DName)) (n11 : Int) (kq12 : Int) (kn : (List DName) × Int × (List DName) × Int × Int × Unit → Option γ) (kx : (List DName) × (List DName) × Int × Unit → Option γ) (kr : Bool × Unit → Option γ) : laws_FnDropNames_l0K list8 owner9 x10 n11 kq12 kn kx kr = (laws_FnDropNames_l0 (list8, owner9, x10, n11, kq12, ())).bind fun r => sum3K r kn kx kr := by
  simp only [laws_FnDropNames_l0K, laws_FnDropNames_l0, cond_bind', chk_bind', nnK_bind', getK_bind', getBK_bind', endK_bind', bind_bind', some_bind', none_bind', sum3K_1, sum3K_2, sum3K_3, sum2K_1, sum2K_2]
noncomputable def laws_FnDropNamesK {γ : Type} (code1 : (List Int)) (k : Bool → Option γ) : Option γ :=
  bif decide ((code1.length : Int) > (1048576 : Int)) then
    k true
  else
  (spec_DrawDropNames code1).bind fun r2 =>
  (impl_DropNames r2.2 r2.1).bind fun r3 =>
  (spec_DropNames r2.2 r2.1).bind fun r4 =>
  (laws_sameNames ((r3.2.2.drop 0).take r3.1) r4.2).bind fun r5 =>
  bif (!(!r5)) then
    bif (r3.2.1 != r4.1) then
      k false
    else
    (spec_NamesValid r2.2).bind fun r6 =>
    bif (!r6) then
      bif ((((r3.2.2.drop 0).take r3.1).length : Int) == (0 : Int)) then
        bif (r3.2.1 == (0 : Int)) then
          (laws_alive).bind fun r7 =>
          k r7
        else
        k false
      else
      k false
    else
    (loopF laws_FnDropNames_l0 (r2.2, r2.1, ((r3.2.2.drop 0).take r3.1), r3.2.1, (0 : Int), ())).bind fun q => endK q (fun z20 =>
      bif ((IntKind.wrap .i64 ((z20.2.1.length : Int) + z20.2.2.1)) == (z20.1.length : Int)) then
        (impl_NamesValid z20.2.1).bind fun r22 =>
        k r22
      else
      k false) (fun z21 =>
      k z21.1)
  else
  k false
noncomputable def laws_FnDropNames (code1 : (List Int)) : Option (Bool) :=
  laws_FnDropNamesK code1 some
theorem laws_FnDropNames_eq {γ : Type} (code1 : (List Int)) (k : Bool → Option γ) : laws_FnDropNamesK code1 k = (laws_FnDropNames code1).bind k := by
  simp only [laws_FnDropNamesK, laws_FnDropNames, cond_bind', chk_bind', nnK_bind', getK_bind', getBK_bind', endK_bind', bind_bind', some_bind', none_bind', sum3K_1, sum3K_2, sum3K_3, sum2K_1, sum2K_2]

/-! slices.Clip(()loop.example/capkernel/impl.Name,loop.example/capkernel/impl.Name) -/
noncomputable def slices_Clip_Name_v2K {γ : Type} (b1 : (List DName)) (k : (List DName) → Option γ) : Option γ :=
  chk (0 ≤ b1.length ∧ b1.length ≤ b1.length ∧ b1.length ≤ b1.length) <|
  chk (0 = 0 ∧ b1.length = b1.length) <|
  k b1
noncomputable def slices_Clip_Name_v2 (b1 : (List DName)) : Option ((List DName)) :=
  slices_Clip_Name_v2K b1 some
theorem slices_Clip_Name_v2_eq {γ : Type} (b1 : (List DName)) (k : (List DName) → Option γ) : slices_Clip_Name_v2K b1 k = (slices_Clip_Name_v2 b1).bind k := by
  simp only [slices_Clip_Name_v2K, slices_Clip_Name_v2, cond_bind', chk_bind', nnK_bind', getK_bind', getBK_bind', endK_bind', bind_bind', some_bind', none_bind', sum3K_1, sum3K_2, sum3K_3, sum2K_1, sum2K_2]

/-! loop.example/capkernel/impl.clone(loop.example/capkernel/impl.Name) -/
noncomputable def impl_clone_NameK {γ : Type} (list1 : (List DName)) (k : (List DName) → Option γ) : Option γ :=
  (slices_Clone_Name list1).bind fun r2 =>
  (slices_Clip_Name_v2 r2).bind fun r3 =>
  k r3
noncomputable def impl_clone_Name (list1 : (List DName)) : Option ((List DName)) :=
  impl_clone_NameK list1 some
theorem impl_clone_Name_eq {γ : Type} (list1 : (List DName)) (k : (List DName) → Option γ) : impl_clone_NameK list1 k = (impl_clone_Name list1).bind k := by
  simp only [impl_clone_NameK, impl_clone_Name, cond_bind', chk_bind', nnK_bind', getK_bind', getBK_bind', endK_bind', bind_bind', some_bind', none_bind', sum3K_1, sum3K_2, sum3K_3, sum2K_1, sum2K_2]


/-! slices.Insert(()loop.example/capkernel/impl.Name,loop.example/capkernel/impl.Name) -/
noncomputable def slices_Insert_Name_roomK {γ : Type} (sq1 : Nat) (sq2 : Nat) (i3 : Int) (p4 : (List DName)) (b5 : (List DName)) (k : (List DName) → Option γ) : Option γ :=
  nnK i3 fun i6 =>
  chk (i6 ≤ sq1) <|
  bif ((p4.length : Int) == (0 : Int)) then
    k (b5.take sq1)
  else
  bif (i3 == (sq1 : Int)) then
    bif decide ((sq1 + p4.length) ≤ sq2) then
      chk (((0 + sq1) + p4.length) ≤ b5.length) <|
      k ((over b5 (0 + sq1) p4).take (sq1 + p4.length))
    else
    chk ((sq1 + p4.length) ≤ bigRow) <|
    k ((b5.drop 0).take sq1 ++ p4)
  else
  bif decide ((IntKind.wrap .i64 ((sq1 : Int) + (p4.length : Int))) > (sq2 : Int)) then
    nnK i3 fun i7 =>
    chk (0 ≤ i7 ∧ i7 ≤ sq2 ∧ (0 + i7) ≤ b5.length) <|
    nnK (IntKind.wrap .i64 ((IntKind.wrap .i64 ((sq1 : Int) + (p4.length : Int))) - i3)) fun i8 =>
    chk (i8 ≤ bigRow) <|
    bif decide ((i7 + (List.replicate i8 ((ByteArray.mk #[]), (0 : Int), (0 : Int), ())).length) ≤ sq2) then
      chk (((0 + i7) + (List.replicate i8 ((ByteArray.mk #[]), (0 : Int), (0 : Int), ())).length) ≤ b5.length) <|
      nnK i3 fun i9 =>
      chk (i9 ≤ (i7 + (List.replicate i8 ((ByteArray.mk #[]), (0 : Int), (0 : Int), ())).length)) <|
      nnK (IntKind.wrap .i64 (i3 + (p4.length : Int))) fun i10 =>
      chk (i10 ≤ (i7 + (List.replicate i8 ((ByteArray.mk #[]), (0 : Int), (0 : Int), ())).length)) <|
      nnK i3 fun i11 =>
      chk (i11 ≤ sq1) <|
      k ((over (over (over b5 (0 + i7) (List.replicate i8 ((ByteArray.mk #[]), (0 : Int), (0 : Int), ()))) (0 + i9) (p4.take ((i7 + (List.replicate i8 ((ByteArray.mk #[]), (0 : Int), (0 : Int), ())).length) - i9))) (0 + i10) ((((over (over b5 (0 + i7) (List.replicate i8 ((ByteArray.mk #[]), (0 : Int), (0 : Int), ()))) (0 + i9) (p4.take ((i7 + (List.replicate i8 ((ByteArray.mk #[]), (0 : Int), (0 : Int), ())).length) - i9))).drop (0 + i11)).take (sq1 - i11)).take ((i7 + (List.replicate i8 ((ByteArray.mk #[]), (0 : Int), (0 : Int), ())).length) - i10))).take (i7 + (List.replicate i8 ((ByteArray.mk #[]), (0 : Int), (0 : Int), ())).length))
    else
    chk ((i7 + (List.replicate i8 ((ByteArray.mk #[]), (0 : Int), (0 : Int), ())).length) ≤ bigRow) <|
    nnK i3 fun i12 =>
    chk (i12 ≤ ((b5.drop 0).take i7 ++ (List.replicate i8 ((ByteArray.mk #[]), (0 : Int), (0 : Int), ()))).length) <|
    nnK (IntKind.wrap .i64 (i3 + (p4.length : Int))) fun i13 =>
    chk (i13 ≤ (over ((b5.drop 0).take i7 ++ (List.replicate i8 ((ByteArray.mk #[]), (0 : Int), (0 : Int), ()))) i12 (p4.take (((b5.drop 0).take i7 ++ (List.replicate i8 ((ByteArray.mk #[]), (0 : Int), (0 : Int), ()))).length - i12))).length) <|
    nnK i3 fun i14 =>
    chk (i14 ≤ sq1) <|
    k (over (over ((b5.drop 0).take i7 ++ (List.replicate i8 ((ByteArray.mk #[]), (0 : Int), (0 : Int), ()))) i12 (p4.take (((b5.drop 0).take i7 ++ (List.replicate i8 ((ByteArray.mk #[]), (0 : Int), (0 : Int), ()))).length - i12))) i13 (((b5.drop (0 + i14)).take (sq1 - i14)).take ((over ((b5.drop 0).take i7 ++ (List.replicate i8 ((ByteArray.mk #[]), (0 : Int), (0 : Int), ()))) i12 (p4.take (((b5.drop 0).take i7 ++ (List.replicate i8 ((ByteArray.mk #[]), (0 : Int), (0 : Int), ()))).length - i12))).length - i13)))
  else
  nnK (IntKind.wrap .i64 ((sq1 : Int) + (p4.length : Int))) fun i15 =>
  chk (0 ≤ i15 ∧ i15 ≤ sq2 ∧ (0 + i15) ≤ b5.length) <|
  nnK (IntKind.wrap .i64 (i3 + (p4.length : Int))) fun i16 =>
  chk (i16 ≤ i15) <|
  nnK (IntKind.wrap .i64 (i3 + (p4.length : Int))) fun i17 =>
  chk (i17 ≤ i15) <|
  nnK i3 fun i18 =>
  chk (i18 ≤ i15) <|
  nnK i3 fun i19 =>
  chk (i19 ≤ i15) <|
  k ((over (over b5 (0 + i17) (((b5.drop (0 + i18)).take (i15 - i18)).take (i15 - i17))) (0 + i19) (p4.take (i15 - i19))).take i15)
noncomputable def slices_Insert_Name_room (sq1 : Nat) (sq2 : Nat) (i3 : Int) (p4 : (List DName)) (b5 : (List DName)) : Option ((List DName)) :=
  slices_Insert_Name_roomK sq1 sq2 i3 p4 b5 some
theorem slices_Insert_Name_room_eq {γ : Type} (sq1 : Nat) (sq2 : Nat) (i3 : Int) (p4 : (List DName)) (b5 : (List DName)) (k : (List DName) → Option γ) : slices_Insert_Name_roomK sq1 sq2 i3 p4 b5 k = (slices_Insert_Name_room sq1 sq2 i3 p4 b5).bind k := by
  simp only [slices_Insert_Name_roomK, slices_Insert_Name_room, cond_bind', chk_bind', nnK_bind', getK_bind', getBK_bind', endK_bind', bind_bind', some_bind', none_bind', sum3K_1, sum3K_2, sum3K_3, sum2K_1, sum2K_2]

/-! slices.Insert(()loop.example/capkernel/impl.Name,loop.example/capkernel/impl.Name) -/
noncomputable def slices_Insert_NameK {γ : Type} (i : Int) (b1 b : (List DName)) (k : (List DName) → Option γ) : Option γ :=
  nnK i fun j => chk (j ≤ b.length) <| chk (b.length + b1.length ≤ bigRow) <| k (b.take j ++ b1 ++ b.drop j)
noncomputable def slices_Insert_Name (i : Int) (b1 b : (List DName)) : Option ((List DName)) :=
  slices_Insert_NameK i b1 b some
theorem slices_Insert_Name_eq {γ : Type} (i : Int) (b1 b : (List DName)) (k : (List DName) → Option γ) : slices_Insert_NameK i b1 b k = (slices_Insert_Name i b1 b).bind k := by
  simp only [slices_Insert_NameK, slices_Insert_Name, cond_bind', chk_bind', nnK_bind', getK_bind', getBK_bind', endK_bind', bind_bind', some_bind', none_bind', sum3K_1, sum3K_2, sum3K_3, sum2K_1, sum2K_2]
set_option maxHeartbeats 1000000 in
theorem slices_Insert_Name_roomy {i : Int} {b1 b y : (List DName)} (js : (List DName)) (h : slices_Insert_Name i b1 b = some y) : slices_Insert_Name_room b.length (b ++ js).length i b1 (b ++ js) = some y := by
  unfold slices_Insert_Name slices_Insert_NameK at h
  by_cases hi : 0 ≤ i
  case neg => simp [nnK, hi] at h
  obtain ⟨j, rfl⟩ := Int.eq_ofNat_of_zero_le hi
  rw [nnK_nat] at h
  by_cases hj : j ≤ b.length
  case neg => simp [chk, hj] at h
  by_cases hb : b.length + b1.length ≤ bigRow
  case neg => simp [chk, hb] at h
  rw [chk_pos hj, chk_pos hb] at h
  obtain rfl := Option.some.inj h
  have hb' : b.length + b1.length ≤ 1099511627776 := hb
  have hl : (b ++ js).length = b.length + js.length := List.length_append
  have w1 : IntKind.wrap .i64 ((b.length : Int) + (b1.length : Int)) = ((b.length + b1.length : Nat) : Int) := by rw [wrap64I (by omega) (by omega)]; omega
  have w2 : IntKind.wrap .i64 ((j : Int) + (b1.length : Int)) = ((j + b1.length : Nat) : Int) := by rw [wrap64I (by omega) (by omega)]; omega
  have w3 : IntKind.wrap .i64 (((b.length + b1.length : Nat) : Int) - (j : Int)) = ((b.length + b1.length - j : Nat) : Int) := by rw [wrap64I (by omega) (by omega)]; omega
  unfold slices_Insert_Name_room slices_Insert_Name_roomK
  simp only [w1, w2, w3, nnK_nat, List.length_replicate]
  rw [chk_pos hj]
  by_cases hm : b1.length = 0
  · have : b1 = [] := List.eq_nil_of_length_eq_zero hm
    subst this
    simp
  rw [show ((b1.length : Int) == (0 : Int)) = false from beq_eq_false_iff_ne.mpr (fun e => hm (by exact_mod_cast e))]
  simp only [cond_false]
  by_cases hjn : j = b.length
  · subst hjn
    simp only [beq_self_eq_true, cond_true]
    by_cases hc : b.length + b1.length ≤ (b ++ js).length
    · rw [show decide (b.length + b1.length ≤ (b ++ js).length) = true by simpa using hc]
      simp only [cond_true]
      rw [chk_pos (by omega), insert_end b js b1 hc]
      simp
    · rw [show decide (b.length + b1.length ≤ (b ++ js).length) = false by simpa using hc]
      simp only [cond_false]
      rw [chk_pos hb]
      simp
  rw [show ((j : Int) == (b.length : Int)) = false from beq_eq_false_iff_ne.mpr (fun e => hjn (by exact_mod_cast e))]
  simp only [cond_false]
  by_cases hc : (b ++ js).length < b.length + b1.length
  · rw [show decide (((b.length + b1.length : Nat) : Int) > ((b ++ js).length : Int)) = true by simp only [gt_iff_lt, decide_eq_true_eq]; omega]
    simp only [cond_true]
    have hgr : ¬ (j + (b.length + b1.length - j) ≤ (b ++ js).length) := by omega
    rw [chk_pos (by omega), chk_pos (show b.length + b1.length - j ≤ bigRow from Nat.le_trans (Nat.sub_le _ _) hb), show decide (j + (b.length + b1.length - j) ≤ (b ++ js).length) = false by simpa using hgr]
    simp only [cond_false]
    rw [chk_pos (show j + (b.length + b1.length - j) ≤ bigRow by rw [show j + (b.length + b1.length - j) = b.length + b1.length by omega]; exact hb)]
    rw [insert_grow b js b1 _ hj]
    have e0 : ((b ++ js).drop 0).take j = b.take j := by rw [List.drop_zero, List.take_append_of_le_length hj]
    have hl3 : ∀ z, (((b ++ js).drop 0).take j ++ List.replicate (b.length + b1.length - j) z).length = b.length + b1.length := fun z => by rw [e0, List.length_append, List.length_take, List.length_replicate]; omega
    rw [chk_pos (by rw [hl3]; omega), chk_pos (by rw [over_length _ _ _ (by rw [hl3, List.length_take]; omega), hl3]; omega), chk_pos hj]
  · rw [show decide (((b.length + b1.length : Nat) : Int) > ((b ++ js).length : Int)) = false by simp only [gt_iff_lt, decide_eq_false_iff_not]; omega]
    simp only [cond_false]
    rw [chk_pos (by omega), chk_pos (by omega), chk_pos (by omega), chk_pos (by omega), chk_pos (by omega), insert_mid b js b1 hj (by omega)]

/-! loop.example/capkernel/impl.PutName -/
noncomputable def impl_PutNameK {γ : Type} (list1 : (List DName)) (x2 : DName) (k : Bool × (List DName) → Option γ) : Option γ :=
  (impl_NamesValid list1).bind fun r3 =>
  bif (!(!r3)) then
    (impl_Name_may (x2.1, x2.2.1, x2.2.2.1, ())).bind fun r4 =>
    bif (!r4) then
      k (false, [])
    else
    (impl_clone_Name list1).bind fun r5 =>
    (impl_find list1 x2.1).bind fun r6 =>
    bif r6.2 then
      nnK r6.1 fun i7 =>
      getK list1 i7 fun v8 =>
      bif (v8.2.1 != x2.2.1) then
        bif (v8.2.1 != x2.2.1) then
          k (false, r5)
        else
        bif r6.2 then
          nnK r6.1 fun i9 =>
          chk (i9 < r5.length) <|
          getK r5 i9 fun y10 =>
          k (true, (r5.set i9 (x2.1, x2.2.1, x2.2.2.1, ())))
        else
        (slices_Insert_Name r6.1 [(x2.1, x2.2.1, x2.2.2.1, ())] r5).bind fun r11 =>
        (impl_clone_Name r11).bind fun r12 =>
        k (true, r12)
      else
      bif (!r6.2) then
        bif ((list1.length : Int) == (20 : Int)) then
          k (false, r5)
        else
        bif r6.2 then
          nnK r6.1 fun i13 =>
          chk (i13 < r5.length) <|
          getK r5 i13 fun y14 =>
          k (true, (r5.set i13 (x2.1, x2.2.1, x2.2.2.1, ())))
        else
        (slices_Insert_Name r6.1 [(x2.1, x2.2.1, x2.2.2.1, ())] r5).bind fun r15 =>
        (impl_clone_Name r15).bind fun r16 =>
        k (true, r16)
      else
      bif r6.2 then
        nnK r6.1 fun i17 =>
        chk (i17 < r5.length) <|
        getK r5 i17 fun y18 =>
        k (true, (r5.set i17 (x2.1, x2.2.1, x2.2.2.1, ())))
      else
      (slices_Insert_Name r6.1 [(x2.1, x2.2.1, x2.2.2.1, ())] r5).bind fun r19 =>
      (impl_clone_Name r19).bind fun r20 =>
      k (true, r20)
    else
    bif (!r6.2) then
      bif ((list1.length : Int) == (20 : Int)) then
        k (false, r5)
      else
      bif r6.2 then
        nnK r6.1 fun i21 =>
        chk (i21 < r5.length) <|
        getK r5 i21 fun y22 =>
        k (true, (r5.set i21 (x2.1, x2.2.1, x2.2.2.1, ())))
      else
      (slices_Insert_Name r6.1 [(x2.1, x2.2.1, x2.2.2.1, ())] r5).bind fun r23 =>
      (impl_clone_Name r23).bind fun r24 =>
      k (true, r24)
    else
    bif r6.2 then
      nnK r6.1 fun i25 =>
      chk (i25 < r5.length) <|
      getK r5 i25 fun y26 =>
      k (true, (r5.set i25 (x2.1, x2.2.1, x2.2.2.1, ())))
    else
    (slices_Insert_Name r6.1 [(x2.1, x2.2.1, x2.2.2.1, ())] r5).bind fun r27 =>
    (impl_clone_Name r27).bind fun r28 =>
    k (true, r28)
  else
  k (false, [])
noncomputable def impl_PutName (list1 : (List DName)) (x2 : DName) : Option (Bool × (List DName)) :=
  impl_PutNameK list1 x2 some
theorem impl_PutName_eq {γ : Type} (list1 : (List DName)) (x2 : DName) (k : Bool × (List DName) → Option γ) : impl_PutNameK list1 x2 k = (impl_PutName list1 x2).bind k := by
  simp only [impl_PutNameK, impl_PutName, cond_bind', chk_bind', nnK_bind', getK_bind', getBK_bind', endK_bind', bind_bind', some_bind', none_bind', sum3K_1, sum3K_2, sum3K_3, sum2K_1, sum2K_2]

/-! loop.example/capkernel/laws.FnExactPutName -/
noncomputable def laws_FnExactPutNameK {γ : Type} (aList1 : (List DName)) (aX2 : DName) (k : Bool → Option γ) : Option γ :=
  (laws_szNameS aList1 (1048576 : Int)).bind fun r3 =>
  bif decide (r3 < (0 : Int)) then
    k true
  else
  (laws_szName (aX2.1, aX2.2.1, aX2.2.2.1, ()) r3).bind fun r4 =>
  bif decide (r4 < (0 : Int)) then
    k true
  else
  (laws_toNameS aList1).bind fun r5 =>
  (laws_toName (aX2.1, aX2.2.1, aX2.2.2.1, ())).bind fun r6 =>
  (spec_PutName r5 r6).bind fun r7 =>
  (laws_toNameS aList1).bind fun r8 =>
  (laws_toName (aX2.1, aX2.2.1, aX2.2.2.1, ())).bind fun r9 =>
  (impl_PutName r8 r9).bind fun r10 =>
  (laws_eqNameS r10.2 r7.2).bind fun r11 =>
  bif (!(!r11)) then
    bif (!(r10.1 == r7.1)) then
      k false
    else
    (laws_toNameS aList1).bind fun r12 =>
    (laws_eqNameS r8 r12).bind fun r13 =>
    bif (!r13) then
      k false
    else
    (laws_markNameS (1 : Int) r8).bind fun r14 =>
    bif (!decide (r14.1 < (0 : Int))) then
      (laws_eqNameS r10.2 r7.2).bind fun r15 =>
      bif (!(!r15)) then
        bif (!(r10.1 == r7.1)) then
          k false
        else
        (laws_markNameS (1 : Int) r10.2).bind fun r16 =>
        (laws_heldNameS r16.2 (1 : Int)).bind fun r17 =>
        bif decide (r17 < (0 : Int)) then
          k false
        else
        bif (r17 != r16.1) then
          k false
        else
        (laws_toNameS aList1).bind fun r18 =>
        (laws_toName (aX2.1, aX2.2.1, aX2.2.2.1, ())).bind fun r19 =>
        (impl_PutName r18 r19).bind fun r20 =>
        (laws_eqNameS r20.2 r7.2).bind fun r21 =>
        bif (!(!r21)) then
          bif (!(r20.1 == r7.1)) then
            k false
          else
          (laws_heldNameS r16.2 (1 : Int)).bind fun r22 =>
          bif decide (r22 < (0 : Int)) then
            k false
          else
          bif (r22 != r16.1) then
            k false
          else
          k true
        else
        k false
      else
      k false
    else
    k false
  else
  k false
noncomputable def laws_FnExactPutName (aList1 : (List DName)) (aX2 : DName) : Option (Bool) :=
  laws_FnExactPutNameK aList1 aX2 some
theorem laws_FnExactPutName_eq {γ : Type} (aList1 : (List DName)) (aX2 : DName) (k : Bool → Option γ) : laws_FnExactPutNameK aList1 aX2 k = (laws_FnExactPutName aList1 aX2).bind k := by
  simp only [laws_FnExactPutNameK, laws_FnExactPutName, cond_bind', chk_bind', nnK_bind', getK_bind', getBK_bind', endK_bind', bind_bind', some_bind', none_bind', sum3K_1, sum3K_2, sum3K_3, sum2K_1, sum2K_2]

/-! loop.example/capkernel/spec.DrawPutName -/
noncomputable def spec_DrawPutNameK {γ : Type} (code1 : (List Int)) (k : DName × (List DName) → Option γ) : Option γ :=
  (spec_l20Open code1).bind fun r2 =>
  (spec_l20Names (12 : Int) r2).bind fun r3 =>
  (spec_l20Text (9 : Int) r3.1).bind fun r4 =>
  (spec_l20Rd_pick (4 : Int) r4.2).bind fun r5 =>
  (spec_l20Rd_pick (14 : Int) r5.2).bind fun r6 =>
  (spec_l20Rd_pick (100 : Int) r6.2).bind fun r7 =>
  k ((r4.1, (IntKind.wrap .i64 (r5.1 - (IntKind.wrap .i64 ((IntKind.wrap .i64 (Int.tdiv r6.1 (13 : Int))) * (9 : Int))))), (IntKind.wrap .i64 (r7.1 - (50 : Int))), ()), r3.2)
noncomputable def spec_DrawPutName (code1 : (List Int)) : Option (DName × (List DName)) :=
  spec_DrawPutNameK code1 some
theorem spec_DrawPutName_eq {γ : Type} (code1 : (List Int)) (k : DName × (List DName) → Option γ) : spec_DrawPutNameK code1 k = (spec_DrawPutName code1).bind k := by
  simp only [spec_DrawPutNameK, spec_DrawPutName, cond_bind', chk_bind', nnK_bind', getK_bind', getBK_bind', endK_bind', bind_bind', some_bind', none_bind', sum3K_1, sum3K_2, sum3K_3, sum2K_1, sum2K_2]

/-! loop.example/capkernel/laws.FnPutName -/
noncomputable def laws_FnPutName_l0K {γ : Type} (list10 : (List DName)) (x11 : (List DName)) (a12 : Int) (found13 : Bool) (kq14 : Int) (b15 : DName) (kn : (List DName) × (List DName) × Int × Bool × Int × DName × Unit → Option γ) (kx : (List DName) × (List DName) × Int × Bool × DName × Unit → Option γ) (kr : Bool × Unit → Option γ) : Option γ :=
  bif decide (kq14 < (list10.length : Int)) then
    nnK kq14 fun i16 =>
    getK list10 i16 fun v17 =>
    (impl_FindName x11 v17.1).bind fun r18 =>
    bif (!(!r18.2)) then
      nnK kq14 fun i19 =>
      getK list10 i19 fun v20 =>
      bif (!(v20.1.toList == b15.1.toList)) then
        nnK kq14 fun i21 =>
        getK list10 i21 fun v22 =>
        bif (!(r18.1 != v22.2.2.1)) then
          nnK kq14 fun i23 =>
          getK list10 i23 fun v24 =>
          bif (v24.1.toList == b15.1.toList) then
            nnK kq14 fun i25 =>
            getK list10 i25 fun v26 =>
            bif (v26.2.1 != b15.2.1) then
              kr (false, ())
            else
            kn (list10, x11, a12, found13, (IntKind.wrap .i64 (kq14 + (1 : Int))), b15, ())
          else
          kn (list10, x11, a12, found13, (IntKind.wrap .i64 (kq14 + (1 : Int))), b15, ())
        else
        kr (false, ())
      else
      nnK kq14 fun i27 =>
      getK list10 i27 fun v28 =>
      bif (v28.1.toList == b15.1.toList) then
        nnK kq14 fun i29 =>
        getK list10 i29 fun v30 =>
        bif (v30.2.1 != b15.2.1) then
          kr (false, ())
        else
        kn (list10, x11, a12, found13, (IntKind.wrap .i64 (kq14 + (1 : Int))), b15, ())
      else
      kn (list10, x11, a12, found13, (IntKind.wrap .i64 (kq14 + (1 : Int))), b15, ())
    else
    kr (false, ())
  else
  kx (list10, x11, a12, found13, b15, ())
noncomputable def laws_FnPutName_l0 (x : (List DName) × (List DName) × Int × Bool × Int × DName × Unit) : Option (((List DName) × (List DName) × Int × Bool × Int × DName × Unit) ⊕ (((List DName) × (List DName) × Int × Bool × DName × Unit) ⊕ (Bool × Unit))) :=
  laws_FnPutName_l0K x.1 x.2.1 x.2.2.1 x.2.2.2.1 x.2.2.2.2.1 x.2.2.2.2.2.1 (fun y => some (.inl y)) (fun a => some (.inr (.inl a))) (fun b => some (.inr (.inr b)))
theorem laws_FnPutName_l0_eq {γ : Type} (list10 : (List DName)) (x11 : (List DName)) (a12 : Int) (found13 : Bool) (kq14 : Int) (b15 : DName) (kn : (List DName) × (List DName) × Int × Bool × Int × DName × Unit → Option γ) (kx : (List DName) × (List DName) × Int × Bool × DName × Unit → Option γ) (kr : Bool × Unit → Option γ) : laws_FnPutName_l0K list10 x11 a12 found13 kq14 b15 kn kx kr = (laws_FnPutName_l0 (list10, x11, a12, found13, kq14, b15, ())).bind fun r => sum3K r kn kx kr := by
  simp only [laws_FnPutName_l0K, laws_FnPutName_l0, cond_bind', chk_bind', nnK_bind', getK_bind', getBK_bind', endK_bind', bind_bind', some_bind', none_bind', sum3K_1, sum3K_2, sum3K_3, sum2K_1, sum2K_2]
noncomputable def laws_FnPutNameK {γ : Type} (code1 : (List Int)) (k : Bool → Option γ) : Option γ :=
  bif decide ((code1.length : Int) > (1048576 : Int)) then
    k true
  else
  (spec_DrawPutName code1).bind fun r2 =>
  (impl_PutName r2.2 (r2.1.1, r2.1.2.1, r2.1.2.2.1, ())).bind fun r3 =>
  (spec_PutName r2.2 (r2.1.1, r2.1.2.1, r2.1.2.2.1, ())).bind fun r4 =>
  (laws_sameNames r3.2 r4.2).bind fun r5 =>
  bif (!(!r5)) then
    bif (!(r3.1 == r4.1)) then
      k false
    else
    bif (!r3.1) then
      bif (!((r3.2.length : Int) == (0 : Int))) then
        (laws_sameNames r3.2 r2.2).bind fun r6 =>
        bif r6 then
          (laws_alive).bind fun r7 =>
          k r7
        else
        k false
      else
      (laws_alive).bind fun r8 =>
      k r8
    else
    (impl_FindName r3.2 r2.1.1).bind fun r9 =>
    (loopF laws_FnPutName_l0 (r2.2, r3.2, r9.1, r9.2, (0 : Int), (r2.1.1, r2.1.2.1, r2.1.2.2.1, ()), ())).bind fun q => endK q (fun z31 =>
      bif z31.2.2.2.1 then
        bif (z31.2.2.1 == z31.2.2.2.2.1.2.2.1) then
          (impl_NamesValid z31.2.1).bind fun r33 =>
          bif r33 then
            k (decide ((z31.2.1.length : Int) ≤ (IntKind.wrap .i64 ((z31.1.length : Int) + (1 : Int)))))
          else
          k false
        else
        k false
      else
      k false) (fun z32 =>
      k z32.1)
  else
  k false
noncomputable def laws_FnPutName (code1 : (List Int)) : Option (Bool) :=
  laws_FnPutNameK code1 some
theorem laws_FnPutName_eq {γ : Type} (code1 : (List Int)) (k : Bool → Option γ) : laws_FnPutNameK code1 k = (laws_FnPutName code1).bind k := by
  simp only [laws_FnPutNameK, laws_FnPutName, cond_bind', chk_bind', nnK_bind', getK_bind', getBK_bind', endK_bind', bind_bind', some_bind', none_bind', sum3K_1, sum3K_2, sum3K_3, sum2K_1, sum2K_2]

/-! loop.example/capkernel/laws.FnNamesBack -/
noncomputable def laws_FnNamesBackK {γ : Type} (code1 : (List Int)) (k : Bool → Option γ) : Option γ :=
  bif decide ((code1.length : Int) > (1048576 : Int)) then
    k true
  else
  (spec_DrawPutName code1).bind fun r2 =>
  (impl_PutName r2.2 (r2.1.1, (15 : Int), r2.1.2.2.1, ())).bind fun r3 =>
  (spec_PutName r2.2 (r2.1.1, (15 : Int), r2.1.2.2.1, ())).bind fun r4 =>
  (laws_sameNames r3.2 r4.2).bind fun r5 =>
  bif (!(!r5)) then
    bif (!(r3.1 == r4.1)) then
      k false
    else
    bif (!r3.1) then
      (laws_alive).bind fun r6 =>
      k r6
    else
    (impl_DropNames r3.2 (15 : Int)).bind fun r7 =>
    bif (r7.2.1 == (1 : Int)) then
      (laws_sameNames ((r7.2.2.drop 0).take r7.1) r2.2).bind fun r8 =>
      k r8
    else
    k false
  else
  k false
noncomputable def laws_FnNamesBack (code1 : (List Int)) : Option (Bool) :=
  laws_FnNamesBackK code1 some
theorem laws_FnNamesBack_eq {γ : Type} (code1 : (List Int)) (k : Bool → Option γ) : laws_FnNamesBackK code1 k = (laws_FnNamesBack code1).bind k := by
  simp only [laws_FnNamesBackK, laws_FnNamesBack, cond_bind', chk_bind', nnK_bind', getK_bind', getBK_bind', endK_bind', bind_bind', some_bind', none_bind', sum3K_1, sum3K_2, sum3K_3, sum2K_1, sum2K_2]

end Go.Ev
