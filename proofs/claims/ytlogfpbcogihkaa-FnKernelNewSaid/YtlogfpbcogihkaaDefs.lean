/-
  What the functions of the program compute, as functions of plain data; printed by a program of the prover.
-/
import Derived.Test.YtlogfpbcogihkaaEv3
namespace Go.Ev
set_option linter.unusedVariables false
set_option linter.unusedSimpArgs false
set_option maxRecDepth 100000
abbrev I : Ty := .int .i64
abbrev Dl20Rd : Type := (List Int) × Int × Unit
abbrev tl20Rd : Ty := .cons (.sl (.int .u8)) (.cons I (.nil))
abbrev DCap : Type := Int × Int × Int × Int × Unit
abbrev tCap : Ty := .cons I (.cons I (.cons I (.cons I (.nil))))
abbrev DEntry : Type := DCap × Int × Bool × Unit
abbrev tEntry : Ty := .cons tCap (.cons I (.cons .bool (.nil)))
abbrev DPiece : Type := Int × Int × Int × Unit
abbrev tPiece : Ty := .cons I (.cons I (.cons I (.nil)))
abbrev DKernel : Type := DPiece × (List DEntry) × (List Int) × Int × Unit
abbrev tKernel : Ty := .cons tPiece (.cons (.sl tEntry) (.cons (.sl I) (.cons I (.nil))))
/-! loop.example/capkernel/spec.l20Open -/
noncomputable def spec_l20OpenK {γ : Type} (code1 : (List Int)) (k : Dl20Rd → Option γ) : Option γ :=
 bif decide ((code1.length : Int) > (2000 : Int)) then
  chk (2000 ≤ code1.length) <|
  k ((code1.take 2000), (0 : Int), ())
 else
 k (code1, (0 : Int), ())
noncomputable def spec_l20Open (code1 : (List Int)) : Option (Dl20Rd) :=
  spec_l20OpenK code1 some
theorem spec_l20Open_eq {γ : Type} (code1 : (List Int)) (k : Dl20Rd → Option γ) : spec_l20OpenK code1 k = (spec_l20Open code1).bind k := by
  simp only [spec_l20OpenK, spec_l20Open, B0, B1, B2, B3, B4, B5, B6, B7, B8, C1, C2, C3, C4, C5]

/-! (*loop.example/capkernel/spec.l20Rd).pick -/
noncomputable def spec_l20Rd_pickK {γ : Type} (n1 : Int) (b2 : Dl20Rd) (k : Int × Dl20Rd → Option γ) : Option γ :=
 bif (!decide (n1 < (1 : Int))) then
  bif ((b2.1.length : Int) == (0 : Int)) then
   k ((0 : Int), (b2.1, (IntKind.wrap .i64 (b2.2.1 + (1 : Int))), ()))
  else
  bif decide ((IntKind.wrap .i64 ((IntKind.wrap .i64 (b2.2.1 + (1 : Int))) - (1 : Int))) < (b2.1.length : Int)) then
   nnK (IntKind.wrap .i64 ((IntKind.wrap .i64 (b2.2.1 + (1 : Int))) - (1 : Int))) fun i3 =>
   getK b2.1 i3 fun v4 =>
   chk (n1 ≠ 0) <|
   k ((Int.tmod (IntKind.wrap .i64 (v4)) n1), (b2.1, (IntKind.wrap .i64 (b2.2.1 + (1 : Int))), ()))
  else
  chk ((b2.1.length : Int) ≠ 0) <|
  nnK (Int.tmod (IntKind.wrap .i64 ((IntKind.wrap .i64 (b2.2.1 + (1 : Int))) - (1 : Int))) (b2.1.length : Int)) fun i5 =>
  getK b2.1 i5 fun v6 =>
  chk ((b2.1.length : Int) ≠ 0) <|
  nnK (Int.tmod (IntKind.wrap .i64 ((IntKind.wrap .i64 ((IntKind.wrap .i64 ((IntKind.wrap .i64 (b2.2.1 + (1 : Int))) - (1 : Int))) * (7 : Int))) + (3 : Int))) (b2.1.length : Int)) fun i7 =>
  getK b2.1 i7 fun v8 =>
  chk ((b2.1.length : Int) ≠ 0) <|
  chk (n1 ≠ 0) <|
  k ((Int.tmod (IntKind.wrap .i64 (((BitVec.ofInt 64 (IntKind.wrap .i64 ((IntKind.wrap .i64 ((IntKind.wrap .i64 ((IntKind.wrap .i64 ((IntKind.wrap .i64 (v6)) * (131 : Int))) + (IntKind.wrap .i64 ((IntKind.wrap .i64 (v8)) * (1117 : Int))))) + (IntKind.wrap .i64 ((IntKind.wrap .i64 ((IntKind.wrap .i64 (b2.2.1 + (1 : Int))) - (1 : Int))) * (29 : Int))))) + (IntKind.wrap .i64 ((IntKind.wrap .i64 (Int.tdiv (IntKind.wrap .i64 ((IntKind.wrap .i64 (b2.2.1 + (1 : Int))) - (1 : Int))) (b2.1.length : Int))) * (53 : Int))))) ^^^ BitVec.ofInt 64 (IntKind.wrap .i64 (Int.tdiv (IntKind.wrap .i64 ((IntKind.wrap .i64 ((IntKind.wrap .i64 ((IntKind.wrap .i64 ((IntKind.wrap .i64 (v6)) * (131 : Int))) + (IntKind.wrap .i64 ((IntKind.wrap .i64 (v8)) * (1117 : Int))))) + (IntKind.wrap .i64 ((IntKind.wrap .i64 ((IntKind.wrap .i64 (b2.2.1 + (1 : Int))) - (1 : Int))) * (29 : Int))))) + (IntKind.wrap .i64 ((IntKind.wrap .i64 (Int.tdiv (IntKind.wrap .i64 ((IntKind.wrap .i64 (b2.2.1 + (1 : Int))) - (1 : Int))) (b2.1.length : Int))) * (53 : Int))))) (64 : Int)))).toNat : Int))) n1), (b2.1, (IntKind.wrap .i64 (b2.2.1 + (1 : Int))), ()))
 else
 k ((0 : Int), (b2.1, (IntKind.wrap .i64 (b2.2.1 + (1 : Int))), ()))
noncomputable def spec_l20Rd_pick (n1 : Int) (b2 : Dl20Rd) : Option (Int × Dl20Rd) :=
  spec_l20Rd_pickK n1 b2 some
theorem spec_l20Rd_pick_eq {γ : Type} (n1 : Int) (b2 : Dl20Rd) (k : Int × Dl20Rd → Option γ) : spec_l20Rd_pickK n1 b2 k = (spec_l20Rd_pick n1 b2).bind k := by
  simp only [spec_l20Rd_pickK, spec_l20Rd_pick, B0, B1, B2, B3, B4, B5, B6, B7, B8, C1, C2, C3, C4, C5]

/-! loop.example/capkernel/spec.l1In -/
noncomputable def spec_l1InK {γ : Type} (n1 : Int) (lo2 : Int) (hi3 : Int) (k : Bool → Option γ) : Option γ :=
 bif decide (n1 ≥ lo2) then
  k (decide (n1 ≤ hi3))
 else
 k false
noncomputable def spec_l1In (n1 : Int) (lo2 : Int) (hi3 : Int) : Option (Bool) :=
  spec_l1InK n1 lo2 hi3 some
theorem spec_l1In_eq {γ : Type} (n1 : Int) (lo2 : Int) (hi3 : Int) (k : Bool → Option γ) : spec_l1InK n1 lo2 hi3 k = (spec_l1In n1 lo2 hi3).bind k := by
  simp only [spec_l1InK, spec_l1In, B0, B1, B2, B3, B4, B5, B6, B7, B8, C1, C2, C3, C4, C5]

/-! loop.example/capkernel/spec.NewKernel -/
noncomputable def spec_NewKernel_l0K {γ : Type} (places5 : Int) (n6 : Int) (b7 : Int) (b8 : Int) (b9 : Int) (b10 : Int) (b11 : Int) (b12 : Int) (b13 : Int) (b14 : Int) (b15 : (List DEntry)) (b16 : (List Int)) (b17 : (List DEntry)) (b18 : (List Int)) (kn : Int × Int × Int × Int × Int × Int × Int × Int × Int × Int × (List DEntry) × (List Int) × (List DEntry) × (List Int) × Unit → Option γ) (kx : Int × Int × Int × Int × Int × Int × Int × Int × (List DEntry) × (List Int) × (List DEntry) × (List Int) × Unit → Option γ) : Option γ :=
 bif decide (n6 < places5) then
  chk ((b18.length + 1) ≤ bigRow) <|
  kn (places5, (IntKind.wrap .i64 (n6 + (1 : Int))), b7, b8, b9, b10, b11, b12, b13, b14, b15, b16, b17, (b18 ++ [(-1 : Int)]), ())
 else
 kx (b7, b8, b9, b10, b11, b12, b13, b14, b15, b16, b17, b18, ())
noncomputable def spec_NewKernel_l0 (x : Int × Int × Int × Int × Int × Int × Int × Int × Int × Int × (List DEntry) × (List Int) × (List DEntry) × (List Int) × Unit) : Option ((Int × Int × Int × Int × Int × Int × Int × Int × Int × Int × (List DEntry) × (List Int) × (List DEntry) × (List Int) × Unit) ⊕ (Int × Int × Int × Int × Int × Int × Int × Int × (List DEntry) × (List Int) × (List DEntry) × (List Int) × Unit)) :=
  spec_NewKernel_l0K x.1 x.2.1 x.2.2.1 x.2.2.2.1 x.2.2.2.2.1 x.2.2.2.2.2.1 x.2.2.2.2.2.2.1 x.2.2.2.2.2.2.2.1 x.2.2.2.2.2.2.2.2.1 x.2.2.2.2.2.2.2.2.2.1 x.2.2.2.2.2.2.2.2.2.2.1 x.2.2.2.2.2.2.2.2.2.2.2.1 x.2.2.2.2.2.2.2.2.2.2.2.2.1 x.2.2.2.2.2.2.2.2.2.2.2.2.2.1 (fun y => some (.inl y)) (fun a => some (.inr a))
theorem spec_NewKernel_l0_eq {γ : Type} (places5 : Int) (n6 : Int) (b7 : Int) (b8 : Int) (b9 : Int) (b10 : Int) (b11 : Int) (b12 : Int) (b13 : Int) (b14 : Int) (b15 : (List DEntry)) (b16 : (List Int)) (b17 : (List DEntry)) (b18 : (List Int)) (kn : Int × Int × Int × Int × Int × Int × Int × Int × Int × Int × (List DEntry) × (List Int) × (List DEntry) × (List Int) × Unit → Option γ) (kx : Int × Int × Int × Int × Int × Int × Int × Int × (List DEntry) × (List Int) × (List DEntry) × (List Int) × Unit → Option γ) : spec_NewKernel_l0K places5 n6 b7 b8 b9 b10 b11 b12 b13 b14 b15 b16 b17 b18 kn kx = (spec_NewKernel_l0 (places5, n6, b7, b8, b9, b10, b11, b12, b13, b14, b15, b16, b17, b18, ())).bind fun r => sum2K r kn kx := by
  simp only [spec_NewKernel_l0K, spec_NewKernel_l0, B0, B1, B2, B3, B4, B5, B6, B7, B8, C1, C2, C3, C4, C5]
noncomputable def spec_NewKernelK {γ : Type} (bits1 : Int) (places2 : Int) (k : Int × Int × Int × Int × (List DEntry) × (List Int) → Option γ) : Option γ :=
 (spec_l1In bits1 (0 : Int) (16 : Int)).bind fun r3 =>
 bif (!(!r3)) then
  (spec_l1In places2 (0 : Int) (40 : Int)).bind fun r4 =>
  bif (!r4) then
   k ((0 : Int), (0 : Int), (0 : Int), (0 : Int), [], [])
  else
  (loopF spec_NewKernel_l0 (places2, (0 : Int), (0 : Int), (0 : Int), (0 : Int), (0 : Int), (0 : Int), bits1, (0 : Int), (0 : Int), [], [], [], [], ())).bind fun z19 =>
  k (z19.2.2.2.2.1, z19.2.2.2.2.2.1, z19.2.2.2.2.2.2.1, z19.2.2.2.2.2.2.2.1, z19.2.2.2.2.2.2.2.2.2.2.1, z19.2.2.2.2.2.2.2.2.2.2.2.1)
 else
 k ((0 : Int), (0 : Int), (0 : Int), (0 : Int), [], [])
noncomputable def spec_NewKernel (bits1 : Int) (places2 : Int) : Option (Int × Int × Int × Int × (List DEntry) × (List Int)) :=
  spec_NewKernelK bits1 places2 some
theorem spec_NewKernel_eq {γ : Type} (bits1 : Int) (places2 : Int) (k : Int × Int × Int × Int × (List DEntry) × (List Int) → Option γ) : spec_NewKernelK bits1 places2 k = (spec_NewKernel bits1 places2).bind k := by
  simp only [spec_NewKernelK, spec_NewKernel, B0, B1, B2, B3, B4, B5, B6, B7, B8, C1, C2, C3, C4, C5]

/-! loop.example/capkernel/spec.PieceValid -/
noncomputable def spec_PieceValidK {γ : Type} (p1 : DPiece) (k : Bool → Option γ) : Option γ :=
 (spec_l1In p1.2.1 (0 : Int) (16 : Int)).bind fun r2 =>
 bif r2 then
  (spec_l1In p1.1 (0 : Int) (65536 : Int)).bind fun r3 =>
  bif r3 then
   chk (0 ≤ p1.2.1) <|
   chk ((IntKind.wrap .i64 ((1 : Int) * 2 ^ (min (p1.2.1).toNat 64))) ≠ 0) <|
   bif ((Int.tmod p1.1 (IntKind.wrap .i64 ((1 : Int) * 2 ^ (min (p1.2.1).toNat 64)))) == (0 : Int)) then
    chk (0 ≤ p1.2.1) <|
    bif decide ((IntKind.wrap .i64 (p1.1 + (IntKind.wrap .i64 ((1 : Int) * 2 ^ (min (p1.2.1).toNat 64))))) ≤ (65536 : Int)) then
     chk (0 ≤ p1.2.1) <|
     (spec_l1In p1.2.2.1 (0 : Int) (IntKind.wrap .i64 ((1 : Int) * 2 ^ (min (p1.2.1).toNat 64)))).bind fun r4 =>
     k r4
    else
    k false
   else
   k false
  else
  k false
 else
 k false
noncomputable def spec_PieceValid (p1 : DPiece) : Option (Bool) :=
  spec_PieceValidK p1 some
theorem spec_PieceValid_eq {γ : Type} (p1 : DPiece) (k : Bool → Option γ) : spec_PieceValidK p1 k = (spec_PieceValid p1).bind k := by
  simp only [spec_PieceValidK, spec_PieceValid, B0, B1, B2, B3, B4, B5, B6, B7, B8, C1, C2, C3, C4, C5]

/-! loop.example/capkernel/spec.RightsValid -/
noncomputable def spec_RightsValidK {γ : Type} (n1 : Int) (k : Bool → Option γ) : Option γ :=
 (spec_l1In n1 (0 : Int) (15 : Int)).bind fun r2 =>
 k r2
noncomputable def spec_RightsValid (n1 : Int) : Option (Bool) :=
  spec_RightsValidK n1 some
theorem spec_RightsValid_eq {γ : Type} (n1 : Int) (k : Bool → Option γ) : spec_RightsValidK n1 k = (spec_RightsValid n1).bind k := by
  simp only [spec_RightsValidK, spec_RightsValid, B0, B1, B2, B3, B4, B5, B6, B7, B8, C1, C2, C3, C4, C5]

/-! loop.example/capkernel/spec.l2Badged -/
noncomputable def spec_l2BadgedK {γ : Type} (kind1 : Int) (k : Bool → Option γ) : Option γ :=
 bif (!(kind1 == (4 : Int))) then
  k (kind1 == (5 : Int))
 else
 k true
noncomputable def spec_l2Badged (kind1 : Int) : Option (Bool) :=
  spec_l2BadgedK kind1 some
theorem spec_l2Badged_eq {γ : Type} (kind1 : Int) (k : Bool → Option γ) : spec_l2BadgedK kind1 k = (spec_l2Badged kind1).bind k := by
  simp only [spec_l2BadgedK, spec_l2Badged, B0, B1, B2, B3, B4, B5, B6, B7, B8, C1, C2, C3, C4, C5]

/-! loop.example/capkernel/spec.CapValid -/
noncomputable def spec_CapValidK {γ : Type} (c1 : DCap) (k : Bool → Option γ) : Option γ :=
 bif (c1.1 == (0 : Int)) then
  k ((decide (c1.1 = (0 : Int)) && (decide (c1.2.1 = (0 : Int)) && (decide (c1.2.2.1 = (0 : Int)) && (decide (c1.2.2.2.1 = (0 : Int)) && true)))))
 else
 (spec_l1In c1.1 (1 : Int) (7 : Int)).bind fun r2 =>
 bif r2 then
  (spec_l1In c1.2.1 (0 : Int) (99 : Int)).bind fun r3 =>
  bif r3 then
   (spec_RightsValid c1.2.2.1).bind fun r4 =>
   bif r4 then
    bif (!(c1.2.2.2.1 == (0 : Int))) then
     (spec_l2Badged c1.1).bind fun r5 =>
     bif r5 then
      (spec_l1In c1.2.2.2.1 (0 : Int) (999 : Int)).bind fun r6 =>
      k r6
     else
     k false
    else
    k true
   else
   k false
  else
  k false
 else
 k false
noncomputable def spec_CapValid (c1 : DCap) : Option (Bool) :=
  spec_CapValidK c1 some
theorem spec_CapValid_eq {γ : Type} (c1 : DCap) (k : Bool → Option γ) : spec_CapValidK c1 k = (spec_CapValid c1).bind k := by
  simp only [spec_CapValidK, spec_CapValid, B0, B1, B2, B3, B4, B5, B6, B7, B8, C1, C2, C3, C4, C5]

/-! loop.example/capkernel/spec.CapWithin -/
noncomputable def spec_CapWithinK {γ : Type} (a1 : DCap) (b2 : DCap) (k : Bool → Option γ) : Option γ :=
 (spec_CapValid (a1.1, a1.2.1, a1.2.2.1, a1.2.2.2.1, ())).bind fun r3 =>
 bif r3 then
  (spec_CapValid (b2.1, b2.2.1, b2.2.2.1, b2.2.2.2.1, ())).bind fun r4 =>
  bif r4 then
   bif (a1.1 == b2.1) then
    bif (a1.2.1 == b2.2.1) then
     bif ((IntKind.wrap .i64 (((BitVec.ofInt 64 a1.2.2.1 &&& BitVec.ofInt 64 b2.2.2.1).toNat : Int))) == a1.2.2.1) then
      bif (!(a1.2.2.2.1 == b2.2.2.2.1)) then
       k (b2.2.2.2.1 == (0 : Int))
      else
      k true
     else
     k false
    else
    k false
   else
   k false
  else
  k false
 else
 k false
noncomputable def spec_CapWithin (a1 : DCap) (b2 : DCap) : Option (Bool) :=
  spec_CapWithinK a1 b2 some
theorem spec_CapWithin_eq {γ : Type} (a1 : DCap) (b2 : DCap) (k : Bool → Option γ) : spec_CapWithinK a1 b2 k = (spec_CapWithin a1 b2).bind k := by
  simp only [spec_CapWithinK, spec_CapWithin, B0, B1, B2, B3, B4, B5, B6, B7, B8, C1, C2, C3, C4, C5]

/-! loop.example/capkernel/spec.DerivationValid -/
noncomputable def spec_DerivationValid_l0K {γ : Type} (d2 : (List DEntry)) (kq3 : Int) (kn : (List DEntry) × Int × Unit → Option γ) (kx : (List DEntry) × Unit → Option γ) (kr : Bool × Unit → Option γ) : Option γ :=
 bif decide (kq3 < (d2.length : Int)) then
  nnK kq3 fun i4 =>
  getK d2 i4 fun v5 =>
  (spec_CapValid v5.1).bind fun r6 =>
  bif (!(!r6)) then
   nnK kq3 fun i7 =>
   getK d2 i7 fun v8 =>
   bif (!(v8.1.1 == (0 : Int))) then
    nnK kq3 fun i9 =>
    getK d2 i9 fun v10 =>
    (spec_l1In v10.2.1 (-1 : Int) (IntKind.wrap .i64 (kq3 - (1 : Int)))).bind fun r11 =>
    bif (!r11) then
     kr (false, ())
    else
    nnK kq3 fun i12 =>
    getK d2 i12 fun v13 =>
    bif decide (v13.2.1 ≥ (0 : Int)) then
     nnK kq3 fun i14 =>
     getK d2 i14 fun v15 =>
     bif (!v15.2.2.1) then
      nnK kq3 fun i16 =>
      getK d2 i16 fun v17 =>
      nnK v17.2.1 fun i18 =>
      getK d2 i18 fun v19 =>
      bif (!v19.2.2.1) then
       nnK kq3 fun i20 =>
       getK d2 i20 fun v21 =>
       nnK kq3 fun i22 =>
       getK d2 i22 fun v23 =>
       nnK v23.2.1 fun i24 =>
       getK d2 i24 fun v25 =>
       (spec_CapWithin v21.1 v25.1).bind fun r26 =>
       bif (!r26) then
        kr (false, ())
       else
       kn (d2, (IntKind.wrap .i64 (kq3 + (1 : Int))), ())
      else
      kr (false, ())
     else
     kn (d2, (IntKind.wrap .i64 (kq3 + (1 : Int))), ())
    else
    kn (d2, (IntKind.wrap .i64 (kq3 + (1 : Int))), ())
   else
   kr (false, ())
  else
  kr (false, ())
 else
 kx (d2, ())
noncomputable def spec_DerivationValid_l0 (x : (List DEntry) × Int × Unit) : Option (((List DEntry) × Int × Unit) ⊕ (((List DEntry) × Unit) ⊕ (Bool × Unit))) :=
  spec_DerivationValid_l0K x.1 x.2.1 (fun y => some (.inl y)) (fun a => some (.inr (.inl a))) (fun b => some (.inr (.inr b)))
theorem spec_DerivationValid_l0_eq {γ : Type} (d2 : (List DEntry)) (kq3 : Int) (kn : (List DEntry) × Int × Unit → Option γ) (kx : (List DEntry) × Unit → Option γ) (kr : Bool × Unit → Option γ) : spec_DerivationValid_l0K d2 kq3 kn kx kr = (spec_DerivationValid_l0 (d2, kq3, ())).bind fun r => sum3K r kn kx kr := by
  simp only [spec_DerivationValid_l0K, spec_DerivationValid_l0, B0, B1, B2, B3, B4, B5, B6, B7, B8, C1, C2, C3, C4, C5]
noncomputable def spec_DerivationValidK {γ : Type} (d1 : (List DEntry)) (k : Bool → Option γ) : Option γ :=
 (loopF spec_DerivationValid_l0 (d1, (0 : Int), ())).bind fun q => endK q (fun z27 =>
  k (decide ((z27.1.length : Int) ≤ (30 : Int)))) (fun z28 =>
  k z28.1)
noncomputable def spec_DerivationValid (d1 : (List DEntry)) : Option (Bool) :=
  spec_DerivationValidK d1 some
theorem spec_DerivationValid_eq {γ : Type} (d1 : (List DEntry)) (k : Bool → Option γ) : spec_DerivationValidK d1 k = (spec_DerivationValid d1).bind k := by
  simp only [spec_DerivationValidK, spec_DerivationValid, B0, B1, B2, B3, B4, B5, B6, B7, B8, C1, C2, C3, C4, C5]

/-! loop.example/capkernel/spec.PlacesValid -/
noncomputable def spec_PlacesValid_l2K {γ : Type} (list7 : (List Int)) (kq8 : Int) (j9 : Int) (kn : (List Int) × Int × Int × Unit → Option γ) (kx : (List Int) × Int × Unit → Option γ) (kr : Bool × Unit → Option γ) : Option γ :=
 bif decide (j9 < kq8) then
  nnK kq8 fun i10 =>
  getK list7 i10 fun v11 =>
  bif decide (v11 ≥ (0 : Int)) then
   nnK j9 fun i12 =>
   getK list7 i12 fun v13 =>
   nnK kq8 fun i14 =>
   getK list7 i14 fun v15 =>
   bif (v13 == v15) then
    kr (false, ())
   else
   kn (list7, kq8, (IntKind.wrap .i64 (j9 + (1 : Int))), ())
  else
  kn (list7, kq8, (IntKind.wrap .i64 (j9 + (1 : Int))), ())
 else
 kx (list7, kq8, ())
noncomputable def spec_PlacesValid_l2 (x : (List Int) × Int × Int × Unit) : Option (((List Int) × Int × Int × Unit) ⊕ (((List Int) × Int × Unit) ⊕ (Bool × Unit))) :=
  spec_PlacesValid_l2K x.1 x.2.1 x.2.2.1 (fun y => some (.inl y)) (fun a => some (.inr (.inl a))) (fun b => some (.inr (.inr b)))
theorem spec_PlacesValid_l2_eq {γ : Type} (list7 : (List Int)) (kq8 : Int) (j9 : Int) (kn : (List Int) × Int × Int × Unit → Option γ) (kx : (List Int) × Int × Unit → Option γ) (kr : Bool × Unit → Option γ) : spec_PlacesValid_l2K list7 kq8 j9 kn kx kr = (spec_PlacesValid_l2 (list7, kq8, j9, ())).bind fun r => sum3K r kn kx kr := by
  simp only [spec_PlacesValid_l2K, spec_PlacesValid_l2, B0, B1, B2, B3, B4, B5, B6, B7, B8, C1, C2, C3, C4, C5]
noncomputable def spec_PlacesValid_l0K {γ : Type} (list2 : (List Int)) (kq3 : Int) (kn : (List Int) × Int × Unit → Option γ) (kx : (List Int) × Unit → Option γ) (kr : Bool × Unit → Option γ) : Option γ :=
 bif decide (kq3 < (list2.length : Int)) then
  nnK kq3 fun i4 =>
  getK list2 i4 fun v5 =>
  (spec_l1In v5 (-1 : Int) (29 : Int)).bind fun r6 =>
  bif (!r6) then
   kr (false, ())
  else
  (loopF spec_PlacesValid_l2 (list2, kq3, (0 : Int), ())).bind fun q => endK q (fun z16 =>
   kn (z16.1, (IntKind.wrap .i64 (z16.2.1 + (1 : Int))), ())) (fun z17 =>
   kr (z17.1, ()))
 else
 kx (list2, ())
noncomputable def spec_PlacesValid_l0 (x : (List Int) × Int × Unit) : Option (((List Int) × Int × Unit) ⊕ (((List Int) × Unit) ⊕ (Bool × Unit))) :=
  spec_PlacesValid_l0K x.1 x.2.1 (fun y => some (.inl y)) (fun a => some (.inr (.inl a))) (fun b => some (.inr (.inr b)))
theorem spec_PlacesValid_l0_eq {γ : Type} (list2 : (List Int)) (kq3 : Int) (kn : (List Int) × Int × Unit → Option γ) (kx : (List Int) × Unit → Option γ) (kr : Bool × Unit → Option γ) : spec_PlacesValid_l0K list2 kq3 kn kx kr = (spec_PlacesValid_l0 (list2, kq3, ())).bind fun r => sum3K r kn kx kr := by
  simp only [spec_PlacesValid_l0K, spec_PlacesValid_l0, B0, B1, B2, B3, B4, B5, B6, B7, B8, C1, C2, C3, C4, C5]
noncomputable def spec_PlacesValidK {γ : Type} (list1 : (List Int)) (k : Bool → Option γ) : Option γ :=
 (loopF spec_PlacesValid_l0 (list1, (0 : Int), ())).bind fun q => endK q (fun z18 =>
  k (decide ((z18.1.length : Int) ≤ (40 : Int)))) (fun z19 =>
  k z19.1)
noncomputable def spec_PlacesValid (list1 : (List Int)) : Option (Bool) :=
  spec_PlacesValidK list1 some
theorem spec_PlacesValid_eq {γ : Type} (list1 : (List Int)) (k : Bool → Option γ) : spec_PlacesValidK list1 k = (spec_PlacesValid list1).bind k := by
  simp only [spec_PlacesValidK, spec_PlacesValid, B0, B1, B2, B3, B4, B5, B6, B7, B8, C1, C2, C3, C4, C5]

/-! loop.example/capkernel/spec.FindPlace -/
noncomputable def spec_FindPlace_l0K {γ : Type} (list3 : (List Int)) (entry4 : Int) (kq5 : Int) (kn : (List Int) × Int × Int × Unit → Option γ) (kx : Unit → Option γ) (kr : Int × Unit → Option γ) : Option γ :=
 bif decide (kq5 < (list3.length : Int)) then
  bif decide (entry4 ≥ (0 : Int)) then
   (spec_PlacesValid list3).bind fun r6 =>
   bif r6 then
    nnK kq5 fun i7 =>
    getK list3 i7 fun v8 =>
    bif (v8 == entry4) then
     kr (kq5, ())
    else
    kn (list3, entry4, (IntKind.wrap .i64 (kq5 + (1 : Int))), ())
   else
   kx ()
  else
  kx ()
 else
 kx ()
noncomputable def spec_FindPlace_l0 (x : (List Int) × Int × Int × Unit) : Option (((List Int) × Int × Int × Unit) ⊕ ((Unit) ⊕ (Int × Unit))) :=
  spec_FindPlace_l0K x.1 x.2.1 x.2.2.1 (fun y => some (.inl y)) (fun a => some (.inr (.inl a))) (fun b => some (.inr (.inr b)))
theorem spec_FindPlace_l0_eq {γ : Type} (list3 : (List Int)) (entry4 : Int) (kq5 : Int) (kn : (List Int) × Int × Int × Unit → Option γ) (kx : Unit → Option γ) (kr : Int × Unit → Option γ) : spec_FindPlace_l0K list3 entry4 kq5 kn kx kr = (spec_FindPlace_l0 (list3, entry4, kq5, ())).bind fun r => sum3K r kn kx kr := by
  simp only [spec_FindPlace_l0K, spec_FindPlace_l0, B0, B1, B2, B3, B4, B5, B6, B7, B8, C1, C2, C3, C4, C5]
noncomputable def spec_FindPlaceK {γ : Type} (list1 : (List Int)) (entry2 : Int) (k : Int → Option γ) : Option γ :=
 (loopF spec_FindPlace_l0 (list1, entry2, (0 : Int), ())).bind fun q => endK q (fun z9 =>
  k (-1 : Int)) (fun z10 =>
  k z10.1)
noncomputable def spec_FindPlace (list1 : (List Int)) (entry2 : Int) : Option (Int) :=
  spec_FindPlaceK list1 entry2 some
theorem spec_FindPlace_eq {γ : Type} (list1 : (List Int)) (entry2 : Int) (k : Int → Option γ) : spec_FindPlaceK list1 entry2 k = (spec_FindPlace list1 entry2).bind k := by
  simp only [spec_FindPlaceK, spec_FindPlace, B0, B1, B2, B3, B4, B5, B6, B7, B8, C1, C2, C3, C4, C5]

/-! loop.example/capkernel/spec.KernelValid -/
noncomputable def spec_KernelValid_l2K {γ : Type} (kq17 : DKernel) (sq18 : Int) (kn : DKernel × Int × Unit → Option γ) (kx : Unit → Option γ) (kr : Bool × Unit → Option γ) : Option γ :=
 bif decide (sq18 < (kq17.2.2.1.length : Int)) then
  nnK sq18 fun i19 =>
  getK kq17.2.2.1 i19 fun v20 =>
  bif (!decide (v20 ≥ (kq17.2.1.length : Int))) then
   nnK sq18 fun i21 =>
   getK kq17.2.2.1 i21 fun v22 =>
   bif decide (v22 ≥ (0 : Int)) then
    nnK sq18 fun i23 =>
    getK kq17.2.2.1 i23 fun v24 =>
    nnK v24 fun i25 =>
    getK kq17.2.1 i25 fun v26 =>
    bif v26.2.2.1 then
     kr (false, ())
    else
    kn (kq17, (IntKind.wrap .i64 (sq18 + (1 : Int))), ())
   else
   kn (kq17, (IntKind.wrap .i64 (sq18 + (1 : Int))), ())
  else
  kr (false, ())
 else
 kx ()
noncomputable def spec_KernelValid_l2 (x : DKernel × Int × Unit) : Option ((DKernel × Int × Unit) ⊕ ((Unit) ⊕ (Bool × Unit))) :=
  spec_KernelValid_l2K x.1 x.2.1 (fun y => some (.inl y)) (fun a => some (.inr (.inl a))) (fun b => some (.inr (.inr b)))
theorem spec_KernelValid_l2_eq {γ : Type} (kq17 : DKernel) (sq18 : Int) (kn : DKernel × Int × Unit → Option γ) (kx : Unit → Option γ) (kr : Bool × Unit → Option γ) : spec_KernelValid_l2K kq17 sq18 kn kx kr = (spec_KernelValid_l2 (kq17, sq18, ())).bind fun r => sum3K r kn kx kr := by
  simp only [spec_KernelValid_l2K, spec_KernelValid_l2, B0, B1, B2, B3, B4, B5, B6, B7, B8, C1, C2, C3, C4, C5]
noncomputable def spec_KernelValid_l0K {γ : Type} (kq6 : DKernel) (n7 : Int) (kn : DKernel × Int × Unit → Option γ) (kx : DKernel × Unit → Option γ) (kr : Bool × Unit → Option γ) : Option γ :=
 bif decide (n7 < (kq6.2.1.length : Int)) then
  nnK n7 fun i8 =>
  getK kq6.2.1 i8 fun v9 =>
  bif (!v9.2.2.1) then
   (spec_FindPlace kq6.2.2.1 n7).bind fun r10 =>
   bif (!decide (r10 < (0 : Int))) then
    nnK n7 fun i11 =>
    getK kq6.2.1 i11 fun v12 =>
    bif decide (v12.1.2.1 ≥ kq6.2.2.2.1) then
     kr (false, ())
    else
    kn (kq6, (IntKind.wrap .i64 (n7 + (1 : Int))), ())
   else
   kr (false, ())
  else
  nnK n7 fun i13 =>
  getK kq6.2.1 i13 fun v14 =>
  bif decide (v14.1.2.1 ≥ kq6.2.2.2.1) then
   kr (false, ())
  else
  kn (kq6, (IntKind.wrap .i64 (n7 + (1 : Int))), ())
 else
 kx (kq6, ())
noncomputable def spec_KernelValid_l0 (x : DKernel × Int × Unit) : Option ((DKernel × Int × Unit) ⊕ ((DKernel × Unit) ⊕ (Bool × Unit))) :=
  spec_KernelValid_l0K x.1 x.2.1 (fun y => some (.inl y)) (fun a => some (.inr (.inl a))) (fun b => some (.inr (.inr b)))
theorem spec_KernelValid_l0_eq {γ : Type} (kq6 : DKernel) (n7 : Int) (kn : DKernel × Int × Unit → Option γ) (kx : DKernel × Unit → Option γ) (kr : Bool × Unit → Option γ) : spec_KernelValid_l0K kq6 n7 kn kx kr = (spec_KernelValid_l0 (kq6, n7, ())).bind fun r => sum3K r kn kx kr := by
  simp only [spec_KernelValid_l0K, spec_KernelValid_l0, B0, B1, B2, B3, B4, B5, B6, B7, B8, C1, C2, C3, C4, C5]
noncomputable def spec_KernelValidK {γ : Type} (kq1 : DKernel) (k : Bool → Option γ) : Option γ :=
 (spec_PieceValid (kq1.1.1, kq1.1.2.1, kq1.1.2.2.1, ())).bind fun r2 =>
 bif (!(!r2)) then
  (spec_DerivationValid kq1.2.1).bind fun r3 =>
  bif (!(!r3)) then
   (spec_PlacesValid kq1.2.2.1).bind fun r4 =>
   bif (!(!r4)) then
    (spec_l1In kq1.2.2.2.1 (0 : Int) (100 : Int)).bind fun r5 =>
    bif (!r5) then
     k false
    else
    (loopF spec_KernelValid_l0 (((kq1.1.1, kq1.1.2.1, kq1.1.2.2.1, ()), kq1.2.1, kq1.2.2.1, kq1.2.2.2.1, ()), (0 : Int), ())).bind fun q => endK q (fun z15 =>
     (loopF spec_KernelValid_l2 (z15.1, (0 : Int), ())).bind fun q => endK q (fun z27 =>
      k true) (fun z28 =>
      k z28.1)) (fun z16 =>
     k z16.1)
   else
   k false
  else
  k false
 else
 k false
noncomputable def spec_KernelValid (kq1 : DKernel) : Option (Bool) :=
  spec_KernelValidK kq1 some
theorem spec_KernelValid_eq {γ : Type} (kq1 : DKernel) (k : Bool → Option γ) : spec_KernelValidK kq1 k = (spec_KernelValid kq1).bind k := by
  simp only [spec_KernelValidK, spec_KernelValid, B0, B1, B2, B3, B4, B5, B6, B7, B8, C1, C2, C3, C4, C5]

/-! loop.example/capkernel/spec.l25Copy -/
noncomputable def spec_l25CopyK {γ : Type} (kq1 : DKernel) (k : Int × Int × Int × Int × (List DEntry) × (List Int) → Option γ) : Option γ :=
 chk (kq1.2.1.length ≤ bigRow) <|
 chk (kq1.2.2.1.length ≤ bigRow) <|
 k (kq1.1.1, kq1.1.2.1, kq1.1.2.2.1, kq1.2.2.2.1, kq1.2.1, kq1.2.2.1)
noncomputable def spec_l25Copy (kq1 : DKernel) : Option (Int × Int × Int × Int × (List DEntry) × (List Int)) :=
  spec_l25CopyK kq1 some
theorem spec_l25Copy_eq {γ : Type} (kq1 : DKernel) (k : Int × Int × Int × Int × (List DEntry) × (List Int) → Option γ) : spec_l25CopyK kq1 k = (spec_l25Copy kq1).bind k := by
  simp only [spec_l25CopyK, spec_l25Copy, B0, B1, B2, B3, B4, B5, B6, B7, B8, C1, C2, C3, C4, C5]

/-! loop.example/capkernel/spec.l25Slot -/
noncomputable def spec_l25SlotK {γ : Type} (kq1 : DKernel) (slot2 : Int) (k : Bool × Bool → Option γ) : Option γ :=
 (spec_l1In slot2 (0 : Int) (IntKind.wrap .i64 ((kq1.2.2.1.length : Int) - (1 : Int)))).bind fun r3 =>
 bif (!r3) then
  k (false, false)
 else
 nnK slot2 fun i4 =>
 getK kq1.2.2.1 i4 fun v5 =>
 k (true, decide (v5 ≥ (0 : Int)))
noncomputable def spec_l25Slot (kq1 : DKernel) (slot2 : Int) : Option (Bool × Bool) :=
  spec_l25SlotK kq1 slot2 some
theorem spec_l25Slot_eq {γ : Type} (kq1 : DKernel) (slot2 : Int) (k : Bool × Bool → Option γ) : spec_l25SlotK kq1 slot2 k = (spec_l25Slot kq1 slot2).bind k := by
  simp only [spec_l25SlotK, spec_l25Slot, B0, B1, B2, B3, B4, B5, B6, B7, B8, C1, C2, C3, C4, C5]

/-! loop.example/capkernel/spec.ObjectBits -/
noncomputable def spec_ObjectBitsK {γ : Type} (kind1 : Int) (k : Int → Option γ) : Option γ :=
 bif (kind1 == (2 : Int)) then
  k (6 : Int)
 else
 bif (kind1 == (3 : Int)) then
  k (9 : Int)
 else
 bif (kind1 == (4 : Int)) then
  bif (kind1 == (4 : Int)) then
   k (4 : Int)
  else
  bif (kind1 == (6 : Int)) then
   k (8 : Int)
  else
  k (-1 : Int)
 else
 bif (kind1 == (5 : Int)) then
  bif (kind1 == (5 : Int)) then
   k (4 : Int)
  else
  bif (kind1 == (6 : Int)) then
   k (8 : Int)
  else
  k (-1 : Int)
 else
 bif (kind1 == (7 : Int)) then
  k (4 : Int)
 else
 bif (kind1 == (6 : Int)) then
  k (8 : Int)
 else
 k (-1 : Int)
noncomputable def spec_ObjectBits (kind1 : Int) : Option (Int) :=
  spec_ObjectBitsK kind1 some
theorem spec_ObjectBits_eq {γ : Type} (kind1 : Int) (k : Int → Option γ) : spec_ObjectBitsK kind1 k = (spec_ObjectBits kind1).bind k := by
  simp only [spec_ObjectBitsK, spec_ObjectBits, B0, B1, B2, B3, B4, B5, B6, B7, B8, C1, C2, C3, C4, C5]

/-! loop.example/capkernel/spec.l3First -/
noncomputable def spec_l3FirstK {γ : Type} (p1 : DPiece) (bits2 : Int) (k : Int → Option γ) : Option γ :=
 chk (0 ≤ bits2) <|
 chk ((IntKind.wrap .i64 ((1 : Int) * 2 ^ (min (bits2).toNat 64))) ≠ 0) <|
 k (IntKind.wrap .i64 ((IntKind.wrap .i64 (Int.tdiv (IntKind.wrap .i64 ((IntKind.wrap .i64 (p1.2.2.1 + (IntKind.wrap .i64 ((1 : Int) * 2 ^ (min (bits2).toNat 64))))) - (1 : Int))) (IntKind.wrap .i64 ((1 : Int) * 2 ^ (min (bits2).toNat 64))))) * (IntKind.wrap .i64 ((1 : Int) * 2 ^ (min (bits2).toNat 64)))))
noncomputable def spec_l3First (p1 : DPiece) (bits2 : Int) : Option (Int) :=
  spec_l3FirstK p1 bits2 some
theorem spec_l3First_eq {γ : Type} (p1 : DPiece) (bits2 : Int) (k : Int → Option γ) : spec_l3FirstK p1 bits2 k = (spec_l3First p1 bits2).bind k := by
  simp only [spec_l3FirstK, spec_l3First, B0, B1, B2, B3, B4, B5, B6, B7, B8, C1, C2, C3, C4, C5]

/-! loop.example/capkernel/spec.PieceRoom -/
noncomputable def spec_PieceRoomK {γ : Type} (p1 : DPiece) (bits2 : Int) (k : Int → Option γ) : Option γ :=
 (spec_PieceValid (p1.1, p1.2.1, p1.2.2.1, ())).bind fun r3 =>
 bif (!(!r3)) then
  (spec_l1In bits2 (0 : Int) (16 : Int)).bind fun r4 =>
  bif (!r4) then
   k (-1 : Int)
  else
  chk (0 ≤ p1.2.1) <|
  (spec_l3First (p1.1, p1.2.1, p1.2.2.1, ()) bits2).bind fun r5 =>
  chk (0 ≤ bits2) <|
  k (if (Int.fdiv (IntKind.wrap .i64 ((IntKind.wrap .i64 ((1 : Int) * 2 ^ (min (p1.2.1).toNat 64))) - r5)) (2 ^ (min (bits2).toNat 64))) > (0 : Int) then (Int.fdiv (IntKind.wrap .i64 ((IntKind.wrap .i64 ((1 : Int) * 2 ^ (min (p1.2.1).toNat 64))) - r5)) (2 ^ (min (bits2).toNat 64))) else (0 : Int))
 else
 k (-1 : Int)
noncomputable def spec_PieceRoom (p1 : DPiece) (bits2 : Int) : Option (Int) :=
  spec_PieceRoomK p1 bits2 some
theorem spec_PieceRoom_eq {γ : Type} (p1 : DPiece) (bits2 : Int) (k : Int → Option γ) : spec_PieceRoomK p1 bits2 k = (spec_PieceRoom p1 bits2).bind k := by
  simp only [spec_PieceRoomK, spec_PieceRoom, B0, B1, B2, B3, B4, B5, B6, B7, B8, C1, C2, C3, C4, C5]

/-! loop.example/capkernel/spec.RetypePiece -/
noncomputable def spec_RetypePiece_l0K {γ : Type} (bits8 : Int) (many9 : Int) (atq10 : Int) (kq11 : Int) (b12 : DPiece) (b13 : DPiece) (b14 : (List Int)) (kn : Int × Int × Int × Int × DPiece × DPiece × (List Int) × Unit → Option γ) (kx : Int × DPiece × DPiece × (List Int) × Unit → Option γ) : Option γ :=
 bif decide (kq11 < many9) then
  chk ((b14.length + 1) ≤ bigRow) <|
  chk (0 ≤ bits8) <|
  kn (bits8, many9, (IntKind.wrap .i64 (atq10 + (IntKind.wrap .i64 ((1 : Int) * 2 ^ (min (bits8).toNat 64))))), (IntKind.wrap .i64 (kq11 + (1 : Int))), b12, b13, (b14 ++ [(IntKind.wrap .i64 (b12.1 + atq10))]), ())
 else
 kx (atq10, b12, b13, b14, ())
noncomputable def spec_RetypePiece_l0 (x : Int × Int × Int × Int × DPiece × DPiece × (List Int) × Unit) : Option ((Int × Int × Int × Int × DPiece × DPiece × (List Int) × Unit) ⊕ (Int × DPiece × DPiece × (List Int) × Unit)) :=
  spec_RetypePiece_l0K x.1 x.2.1 x.2.2.1 x.2.2.2.1 x.2.2.2.2.1 x.2.2.2.2.2.1 x.2.2.2.2.2.2.1 (fun y => some (.inl y)) (fun a => some (.inr a))
theorem spec_RetypePiece_l0_eq {γ : Type} (bits8 : Int) (many9 : Int) (atq10 : Int) (kq11 : Int) (b12 : DPiece) (b13 : DPiece) (b14 : (List Int)) (kn : Int × Int × Int × Int × DPiece × DPiece × (List Int) × Unit → Option γ) (kx : Int × DPiece × DPiece × (List Int) × Unit → Option γ) : spec_RetypePiece_l0K bits8 many9 atq10 kq11 b12 b13 b14 kn kx = (spec_RetypePiece_l0 (bits8, many9, atq10, kq11, b12, b13, b14, ())).bind fun r => sum2K r kn kx := by
  simp only [spec_RetypePiece_l0K, spec_RetypePiece_l0, B0, B1, B2, B3, B4, B5, B6, B7, B8, C1, C2, C3, C4, C5]
noncomputable def spec_RetypePieceK {γ : Type} (p1 : DPiece) (bits2 : Int) (many3 : Int) (k : DPiece × Bool × (List Int) → Option γ) : Option γ :=
 (spec_PieceRoom (p1.1, p1.2.1, p1.2.2.1, ()) bits2).bind fun r4 =>
 bif (!decide (r4 < (0 : Int))) then
  (spec_l1In many3 (1 : Int) (40 : Int)).bind fun r5 =>
  bif (!r5) then
   k (((0 : Int), (0 : Int), (0 : Int), ()), false, [])
  else
  (spec_PieceRoom (p1.1, p1.2.1, p1.2.2.1, ()) bits2).bind fun r6 =>
  bif decide (r6 < many3) then
   k ((p1.1, p1.2.1, p1.2.2.1, ()), false, [])
  else
  (spec_l3First (p1.1, p1.2.1, p1.2.2.1, ()) bits2).bind fun r7 =>
  (loopF spec_RetypePiece_l0 (bits2, many3, r7, (0 : Int), (p1.1, p1.2.1, p1.2.2.1, ()), ((0 : Int), (0 : Int), (0 : Int), ()), [], ())).bind fun z15 =>
  k ((z15.2.1.1, z15.2.1.2.1, z15.1, ()), true, z15.2.2.2.1)
 else
 k (((0 : Int), (0 : Int), (0 : Int), ()), false, [])
noncomputable def spec_RetypePiece (p1 : DPiece) (bits2 : Int) (many3 : Int) : Option (DPiece × Bool × (List Int)) :=
  spec_RetypePieceK p1 bits2 many3 some
theorem spec_RetypePiece_eq {γ : Type} (p1 : DPiece) (bits2 : Int) (many3 : Int) (k : DPiece × Bool × (List Int) → Option γ) : spec_RetypePieceK p1 bits2 many3 k = (spec_RetypePiece p1 bits2 many3).bind k := by
  simp only [spec_RetypePieceK, spec_RetypePiece, B0, B1, B2, B3, B4, B5, B6, B7, B8, C1, C2, C3, C4, C5]

/-! loop.example/capkernel/spec.SysRetype -/
noncomputable def spec_SysRetypeK {γ : Type} (kq1 : DKernel) (kind2 : Int) (slot3 : Int) (k : Int × Int × Int × Int × Int × (List DEntry) × (List Int) → Option γ) : Option γ :=
 (spec_KernelValid ((kq1.1.1, kq1.1.2.1, kq1.1.2.2.1, ()), kq1.2.1, kq1.2.2.1, kq1.2.2.2.1, ())).bind fun r4 =>
 bif (!r4) then
  k ((0 : Int), (0 : Int), (0 : Int), (0 : Int), (3 : Int), [], [])
 else
 (spec_l25Copy ((kq1.1.1, kq1.1.2.1, kq1.1.2.2.1, ()), kq1.2.1, kq1.2.2.1, kq1.2.2.2.1, ())).bind fun r5 =>
 (spec_l25Slot ((kq1.1.1, kq1.1.2.1, kq1.1.2.2.1, ()), kq1.2.1, kq1.2.2.1, kq1.2.2.2.1, ()) slot3).bind fun r6 =>
 bif (!(!r6.1)) then
  bif r6.2 then
   k (r5.1, r5.2.1, r5.2.2.1, r5.2.2.2.1, (1 : Int), r5.2.2.2.2.1, r5.2.2.2.2.2)
  else
  (spec_ObjectBits kind2).bind fun r7 =>
  bif decide (r7 < (0 : Int)) then
   k (r5.1, r5.2.1, r5.2.2.1, r5.2.2.2.1, (3 : Int), r5.2.2.2.2.1, r5.2.2.2.2.2)
  else
  bif (!((kq1.2.1.length : Int) == (30 : Int))) then
   bif decide (kq1.2.2.2.1 > (99 : Int)) then
    k (r5.1, r5.2.1, r5.2.2.1, r5.2.2.2.1, (2 : Int), r5.2.2.2.2.1, r5.2.2.2.2.2)
   else
   (spec_RetypePiece (kq1.1.1, kq1.1.2.1, kq1.1.2.2.1, ()) r7 (1 : Int)).bind fun r8 =>
   bif (!r8.2.1) then
    k (r5.1, r5.2.1, r5.2.2.1, r5.2.2.2.1, (4 : Int), r5.2.2.2.2.1, r5.2.2.2.2.2)
   else
   nnK slot3 fun i9 =>
   chk (i9 < r5.2.2.2.2.2.length) <|
   getK r5.2.2.2.2.2 i9 fun y10 =>
   chk ((r5.2.2.2.2.1.length + 1) ≤ bigRow) <|
   k (r8.1.1, r8.1.2.1, r8.1.2.2.1, (IntKind.wrap .i64 (r5.2.2.2.1 + (1 : Int))), (0 : Int), (r5.2.2.2.2.1 ++ [((kind2, kq1.2.2.2.1, (15 : Int), (0 : Int), ()), (-1 : Int), false, ())]), (r5.2.2.2.2.2.set i9 (r5.2.2.2.2.1.length : Int)))
  else
  k (r5.1, r5.2.1, r5.2.2.1, r5.2.2.2.1, (2 : Int), r5.2.2.2.2.1, r5.2.2.2.2.2)
 else
 k (r5.1, r5.2.1, r5.2.2.1, r5.2.2.2.1, (1 : Int), r5.2.2.2.2.1, r5.2.2.2.2.2)
noncomputable def spec_SysRetype (kq1 : DKernel) (kind2 : Int) (slot3 : Int) : Option (Int × Int × Int × Int × Int × (List DEntry) × (List Int)) :=
  spec_SysRetypeK kq1 kind2 slot3 some
theorem spec_SysRetype_eq {γ : Type} (kq1 : DKernel) (kind2 : Int) (slot3 : Int) (k : Int × Int × Int × Int × Int × (List DEntry) × (List Int) → Option γ) : spec_SysRetypeK kq1 kind2 slot3 k = (spec_SysRetype kq1 kind2 slot3).bind k := by
  simp only [spec_SysRetypeK, spec_SysRetype, B0, B1, B2, B3, B4, B5, B6, B7, B8, C1, C2, C3, C4, C5]

/-! loop.example/capkernel/spec.l5Live -/
noncomputable def spec_l5LiveK {γ : Type} (d1 : (List DEntry)) (n2 : Int) (k : Bool → Option γ) : Option γ :=
 (spec_DerivationValid d1).bind fun r3 =>
 bif r3 then
  (spec_l1In n2 (0 : Int) (IntKind.wrap .i64 ((d1.length : Int) - (1 : Int)))).bind fun r4 =>
  bif r4 then
   nnK n2 fun i5 =>
   getK d1 i5 fun v6 =>
   k (!v6.2.2.1)
  else
  k false
 else
 k false
noncomputable def spec_l5Live (d1 : (List DEntry)) (n2 : Int) : Option (Bool) :=
  spec_l5LiveK d1 n2 some
theorem spec_l5Live_eq {γ : Type} (d1 : (List DEntry)) (n2 : Int) (k : Bool → Option γ) : spec_l5LiveK d1 n2 k = (spec_l5Live d1 n2).bind k := by
  simp only [spec_l5LiveK, spec_l5Live, B0, B1, B2, B3, B4, B5, B6, B7, B8, C1, C2, C3, C4, C5]

/-! loop.example/capkernel/spec.MintCap -/
noncomputable def spec_MintCapK {γ : Type} (c1 : DCap) (rights2 : Int) (badge3 : Int) (k : DCap × Bool → Option γ) : Option γ :=
 (spec_CapValid (c1.1, c1.2.1, c1.2.2.1, c1.2.2.2.1, ())).bind fun r4 =>
 bif (!(!r4)) then
  (spec_RightsValid rights2).bind fun r5 =>
  bif (!(!r5)) then
   (spec_l1In badge3 (0 : Int) (999 : Int)).bind fun r6 =>
   bif (!(!r6)) then
    bif (!(c1.1 == (0 : Int))) then
     bif (!(c1.1 == (1 : Int))) then
      bif (!(c1.1 == (7 : Int))) then
       bif decide (badge3 > (0 : Int)) then
        (spec_l2Badged c1.1).bind fun r7 =>
        bif (!(!r7)) then
         bif (c1.2.2.2.1 != (0 : Int)) then
          k (((0 : Int), (0 : Int), (0 : Int), (0 : Int), ()), false)
         else
         bif decide (badge3 > (0 : Int)) then
          k ((c1.1, c1.2.1, (IntKind.wrap .i64 (((BitVec.ofInt 64 c1.2.2.1 &&& BitVec.ofInt 64 rights2).toNat : Int))), badge3, ()), true)
         else
         k ((c1.1, c1.2.1, (IntKind.wrap .i64 (((BitVec.ofInt 64 c1.2.2.1 &&& BitVec.ofInt 64 rights2).toNat : Int))), c1.2.2.2.1, ()), true)
        else
        k (((0 : Int), (0 : Int), (0 : Int), (0 : Int), ()), false)
       else
       bif decide (badge3 > (0 : Int)) then
        k ((c1.1, c1.2.1, (IntKind.wrap .i64 (((BitVec.ofInt 64 c1.2.2.1 &&& BitVec.ofInt 64 rights2).toNat : Int))), badge3, ()), true)
       else
       k ((c1.1, c1.2.1, (IntKind.wrap .i64 (((BitVec.ofInt 64 c1.2.2.1 &&& BitVec.ofInt 64 rights2).toNat : Int))), c1.2.2.2.1, ()), true)
      else
      k (((0 : Int), (0 : Int), (0 : Int), (0 : Int), ()), false)
     else
     k (((0 : Int), (0 : Int), (0 : Int), (0 : Int), ()), false)
    else
    k (((0 : Int), (0 : Int), (0 : Int), (0 : Int), ()), false)
   else
   k (((0 : Int), (0 : Int), (0 : Int), (0 : Int), ()), false)
  else
  k (((0 : Int), (0 : Int), (0 : Int), (0 : Int), ()), false)
 else
 k (((0 : Int), (0 : Int), (0 : Int), (0 : Int), ()), false)
noncomputable def spec_MintCap (c1 : DCap) (rights2 : Int) (badge3 : Int) : Option (DCap × Bool) :=
  spec_MintCapK c1 rights2 badge3 some
theorem spec_MintCap_eq {γ : Type} (c1 : DCap) (rights2 : Int) (badge3 : Int) (k : DCap × Bool → Option γ) : spec_MintCapK c1 rights2 badge3 k = (spec_MintCap c1 rights2 badge3).bind k := by
  simp only [spec_MintCapK, spec_MintCap, B0, B1, B2, B3, B4, B5, B6, B7, B8, C1, C2, C3, C4, C5]

/-! loop.example/capkernel/spec.DeriveCap -/
noncomputable def spec_DeriveCapK {γ : Type} (d1 : (List DEntry)) (n2 : Int) (rights3 : Int) (badge4 : Int) (k : Int × Bool × (List DEntry) → Option γ) : Option γ :=
 (spec_l5Live d1 n2).bind fun r5 =>
 bif (!r5) then
  k ((-1 : Int), false, [])
 else
 chk (d1.length ≤ bigRow) <|
 nnK n2 fun i6 =>
 getK d1 i6 fun v7 =>
 (spec_MintCap v7.1 rights3 badge4).bind fun r8 =>
 bif (!(!r8.2)) then
  bif ((d1.length : Int) == (30 : Int)) then
   k ((-1 : Int), false, d1)
  else
  chk ((d1.length + 1) ≤ bigRow) <|
  k ((d1.length : Int), true, (d1 ++ [((r8.1.1, r8.1.2.1, r8.1.2.2.1, r8.1.2.2.2.1, ()), n2, false, ())]))
 else
 k ((-1 : Int), false, d1)
noncomputable def spec_DeriveCap (d1 : (List DEntry)) (n2 : Int) (rights3 : Int) (badge4 : Int) : Option (Int × Bool × (List DEntry)) :=
  spec_DeriveCapK d1 n2 rights3 badge4 some
theorem spec_DeriveCap_eq {γ : Type} (d1 : (List DEntry)) (n2 : Int) (rights3 : Int) (badge4 : Int) (k : Int × Bool × (List DEntry) → Option γ) : spec_DeriveCapK d1 n2 rights3 badge4 k = (spec_DeriveCap d1 n2 rights3 badge4).bind k := by
  simp only [spec_DeriveCapK, spec_DeriveCap, B0, B1, B2, B3, B4, B5, B6, B7, B8, C1, C2, C3, C4, C5]

/-! loop.example/capkernel/spec.SysMint -/
noncomputable def spec_SysMintK {γ : Type} (kq1 : DKernel) (fromq2 : Int) (toq3 : Int) (rights4 : Int) (badge5 : Int) (k : Int × Int × Int × Int × Int × (List DEntry) × (List Int) → Option γ) : Option γ :=
 (spec_KernelValid ((kq1.1.1, kq1.1.2.1, kq1.1.2.2.1, ()), kq1.2.1, kq1.2.2.1, kq1.2.2.2.1, ())).bind fun r6 =>
 bif (!r6) then
  k ((0 : Int), (0 : Int), (0 : Int), (0 : Int), (3 : Int), [], [])
 else
 (spec_l25Copy ((kq1.1.1, kq1.1.2.1, kq1.1.2.2.1, ()), kq1.2.1, kq1.2.2.1, kq1.2.2.2.1, ())).bind fun r7 =>
 (spec_l25Slot ((kq1.1.1, kq1.1.2.1, kq1.1.2.2.1, ()), kq1.2.1, kq1.2.2.1, kq1.2.2.2.1, ()) fromq2).bind fun r8 =>
 (spec_l25Slot ((kq1.1.1, kq1.1.2.1, kq1.1.2.2.1, ()), kq1.2.1, kq1.2.2.1, kq1.2.2.2.1, ()) toq3).bind fun r9 =>
 bif (!(!r8.2)) then
  bif (!(!r9.1)) then
   bif r9.2 then
    k (r7.1, r7.2.1, r7.2.2.1, r7.2.2.2.1, (1 : Int), r7.2.2.2.2.1, r7.2.2.2.2.2)
   else
   bif ((kq1.2.1.length : Int) == (30 : Int)) then
    k (r7.1, r7.2.1, r7.2.2.1, r7.2.2.2.1, (2 : Int), r7.2.2.2.2.1, r7.2.2.2.2.2)
   else
   nnK fromq2 fun i10 =>
   getK kq1.2.2.1 i10 fun v11 =>
   (spec_DeriveCap kq1.2.1 v11 rights4 badge5).bind fun r12 =>
   bif (!r12.2.1) then
    k (r7.1, r7.2.1, r7.2.2.1, r7.2.2.2.1, (3 : Int), r7.2.2.2.2.1, r7.2.2.2.2.2)
   else
   nnK toq3 fun i13 =>
   chk (i13 < r7.2.2.2.2.2.length) <|
   getK r7.2.2.2.2.2 i13 fun y14 =>
   k (r7.1, r7.2.1, r7.2.2.1, r7.2.2.2.1, (0 : Int), r12.2.2, (r7.2.2.2.2.2.set i13 r12.1))
  else
  k (r7.1, r7.2.1, r7.2.2.1, r7.2.2.2.1, (1 : Int), r7.2.2.2.2.1, r7.2.2.2.2.2)
 else
 k (r7.1, r7.2.1, r7.2.2.1, r7.2.2.2.1, (1 : Int), r7.2.2.2.2.1, r7.2.2.2.2.2)
noncomputable def spec_SysMint (kq1 : DKernel) (fromq2 : Int) (toq3 : Int) (rights4 : Int) (badge5 : Int) : Option (Int × Int × Int × Int × Int × (List DEntry) × (List Int)) :=
  spec_SysMintK kq1 fromq2 toq3 rights4 badge5 some
theorem spec_SysMint_eq {γ : Type} (kq1 : DKernel) (fromq2 : Int) (toq3 : Int) (rights4 : Int) (badge5 : Int) (k : Int × Int × Int × Int × Int × (List DEntry) × (List Int) → Option γ) : spec_SysMintK kq1 fromq2 toq3 rights4 badge5 k = (spec_SysMint kq1 fromq2 toq3 rights4 badge5).bind k := by
  simp only [spec_SysMintK, spec_SysMint, B0, B1, B2, B3, B4, B5, B6, B7, B8, C1, C2, C3, C4, C5]

/-! loop.example/capkernel/spec.RemoveCap -/
noncomputable def spec_RemoveCap_l0K {γ : Type} (d4 : (List DEntry)) (n5 : Int) (kq6 : Int) (b7 : (List DEntry)) (kn : (List DEntry) × Int × Int × (List DEntry) × Unit → Option γ) (kx : Int × (List DEntry) × Unit → Option γ) : Option γ :=
 bif decide (kq6 < (b7.length : Int)) then
  nnK kq6 fun i8 =>
  chk (i8 < b7.length) <|
  getK b7 i8 fun v9 =>
  bif (v9.2.1 == n5) then
   nnK kq6 fun i10 =>
   chk (i10 < b7.length) <|
   getK b7 i10 fun v11 =>
   bif (!v11.2.2.1) then
    nnK n5 fun i12 =>
    getK d4 i12 fun v13 =>
    nnK kq6 fun i14 =>
    chk (i14 < b7.length) <|
    getK b7 i14 fun y15 =>
    kn (d4, n5, (IntKind.wrap .i64 (kq6 + (1 : Int))), (b7.set i14 (y15.1, v13.2.1, y15.2.2.1, ())), ())
   else
   kn (d4, n5, (IntKind.wrap .i64 (kq6 + (1 : Int))), b7, ())
  else
  kn (d4, n5, (IntKind.wrap .i64 (kq6 + (1 : Int))), b7, ())
 else
 kx (n5, b7, ())
noncomputable def spec_RemoveCap_l0 (x : (List DEntry) × Int × Int × (List DEntry) × Unit) : Option (((List DEntry) × Int × Int × (List DEntry) × Unit) ⊕ (Int × (List DEntry) × Unit)) :=
  spec_RemoveCap_l0K x.1 x.2.1 x.2.2.1 x.2.2.2.1 (fun y => some (.inl y)) (fun a => some (.inr a))
theorem spec_RemoveCap_l0_eq {γ : Type} (d4 : (List DEntry)) (n5 : Int) (kq6 : Int) (b7 : (List DEntry)) (kn : (List DEntry) × Int × Int × (List DEntry) × Unit → Option γ) (kx : Int × (List DEntry) × Unit → Option γ) : spec_RemoveCap_l0K d4 n5 kq6 b7 kn kx = (spec_RemoveCap_l0 (d4, n5, kq6, b7, ())).bind fun r => sum2K r kn kx := by
  simp only [spec_RemoveCap_l0K, spec_RemoveCap_l0, B0, B1, B2, B3, B4, B5, B6, B7, B8, C1, C2, C3, C4, C5]
noncomputable def spec_RemoveCapK {γ : Type} (d1 : (List DEntry)) (n2 : Int) (k : (List DEntry) → Option γ) : Option γ :=
 (spec_l5Live d1 n2).bind fun r3 =>
 bif (!r3) then
  k []
 else
 chk (d1.length ≤ bigRow) <|
 (loopF spec_RemoveCap_l0 (d1, n2, (IntKind.wrap .i64 (n2 + (1 : Int))), d1, ())).bind fun z16 =>
 nnK z16.1 fun i17 =>
 chk (i17 < z16.2.1.length) <|
 getK z16.2.1 i17 fun y18 =>
 k (z16.2.1.set i17 (y18.1, y18.2.1, true, ()))
noncomputable def spec_RemoveCap (d1 : (List DEntry)) (n2 : Int) : Option ((List DEntry)) :=
  spec_RemoveCapK d1 n2 some
theorem spec_RemoveCap_eq {γ : Type} (d1 : (List DEntry)) (n2 : Int) (k : (List DEntry) → Option γ) : spec_RemoveCapK d1 n2 k = (spec_RemoveCap d1 n2).bind k := by
  simp only [spec_RemoveCapK, spec_RemoveCap, B0, B1, B2, B3, B4, B5, B6, B7, B8, C1, C2, C3, C4, C5]

/-! loop.example/capkernel/spec.SysDelete -/
noncomputable def spec_SysDeleteK {γ : Type} (kq1 : DKernel) (slot2 : Int) (k : Int × Int × Int × Int × Int × (List DEntry) × (List Int) → Option γ) : Option γ :=
 (spec_KernelValid ((kq1.1.1, kq1.1.2.1, kq1.1.2.2.1, ()), kq1.2.1, kq1.2.2.1, kq1.2.2.2.1, ())).bind fun r3 =>
 bif (!r3) then
  k ((0 : Int), (0 : Int), (0 : Int), (0 : Int), (3 : Int), [], [])
 else
 (spec_l25Copy ((kq1.1.1, kq1.1.2.1, kq1.1.2.2.1, ()), kq1.2.1, kq1.2.2.1, kq1.2.2.2.1, ())).bind fun r4 =>
 (spec_l25Slot ((kq1.1.1, kq1.1.2.1, kq1.1.2.2.1, ()), kq1.2.1, kq1.2.2.1, kq1.2.2.2.1, ()) slot2).bind fun r5 =>
 bif (!r5.2) then
  k (r4.1, r4.2.1, r4.2.2.1, r4.2.2.2.1, (1 : Int), r4.2.2.2.2.1, r4.2.2.2.2.2)
 else
 nnK slot2 fun i6 =>
 getK kq1.2.2.1 i6 fun v7 =>
 (spec_RemoveCap kq1.2.1 v7).bind fun r8 =>
 nnK slot2 fun i9 =>
 chk (i9 < r4.2.2.2.2.2.length) <|
 getK r4.2.2.2.2.2 i9 fun y10 =>
 k (r4.1, r4.2.1, r4.2.2.1, r4.2.2.2.1, (0 : Int), r8, (r4.2.2.2.2.2.set i9 (-1 : Int)))
noncomputable def spec_SysDelete (kq1 : DKernel) (slot2 : Int) : Option (Int × Int × Int × Int × Int × (List DEntry) × (List Int)) :=
  spec_SysDeleteK kq1 slot2 some
theorem spec_SysDelete_eq {γ : Type} (kq1 : DKernel) (slot2 : Int) (k : Int × Int × Int × Int × Int × (List DEntry) × (List Int) → Option γ) : spec_SysDeleteK kq1 slot2 k = (spec_SysDelete kq1 slot2).bind k := by
  simp only [spec_SysDeleteK, spec_SysDelete, B0, B1, B2, B3, B4, B5, B6, B7, B8, C1, C2, C3, C4, C5]

/-! loop.example/capkernel/spec.l5Below -/
noncomputable def spec_l5Below_l0K {γ : Type} (d8 : (List DEntry)) (n9 : Int) (top10 : Int) (kn : (List DEntry) × Int × Int × Unit → Option γ) (kx : Int × Int × Unit → Option γ) : Option γ :=
 bif decide (n9 > top10) then
  nnK n9 fun i11 =>
  getK d8 i11 fun v12 =>
  kn (d8, v12.2.1, top10, ())
 else
 kx (n9, top10, ())
noncomputable def spec_l5Below_l0 (x : (List DEntry) × Int × Int × Unit) : Option (((List DEntry) × Int × Int × Unit) ⊕ (Int × Int × Unit)) :=
  spec_l5Below_l0K x.1 x.2.1 x.2.2.1 (fun y => some (.inl y)) (fun a => some (.inr a))
theorem spec_l5Below_l0_eq {γ : Type} (d8 : (List DEntry)) (n9 : Int) (top10 : Int) (kn : (List DEntry) × Int × Int × Unit → Option γ) (kx : Int × Int × Unit → Option γ) : spec_l5Below_l0K d8 n9 top10 kn kx = (spec_l5Below_l0 (d8, n9, top10, ())).bind fun r => sum2K r kn kx := by
  simp only [spec_l5Below_l0K, spec_l5Below_l0, B0, B1, B2, B3, B4, B5, B6, B7, B8, C1, C2, C3, C4, C5]
noncomputable def spec_l5BelowK {γ : Type} (d1 : (List DEntry)) (n2 : Int) (top3 : Int) (k : Bool → Option γ) : Option γ :=
 nnK n2 fun i4 =>
 getK d1 i4 fun v5 =>
 bif v5.2.2.1 then
  k false
 else
 nnK n2 fun i6 =>
 getK d1 i6 fun v7 =>
 (loopF spec_l5Below_l0 (d1, v7.2.1, top3, ())).bind fun z13 =>
 k (z13.1 == z13.2.1)
noncomputable def spec_l5Below (d1 : (List DEntry)) (n2 : Int) (top3 : Int) : Option (Bool) :=
  spec_l5BelowK d1 n2 top3 some
theorem spec_l5Below_eq {γ : Type} (d1 : (List DEntry)) (n2 : Int) (top3 : Int) (k : Bool → Option γ) : spec_l5BelowK d1 n2 top3 k = (spec_l5Below d1 n2 top3).bind k := by
  simp only [spec_l5BelowK, spec_l5Below, B0, B1, B2, B3, B4, B5, B6, B7, B8, C1, C2, C3, C4, C5]

/-! loop.example/capkernel/spec.Descendants -/
noncomputable def spec_Descendants_l0K {γ : Type} (d3 : (List DEntry)) (n4 : Int) (kq5 : Int) (b6 : (List Int)) (kn : (List DEntry) × Int × Int × (List Int) × Unit → Option γ) (kx : (List Int) × Unit → Option γ) : Option γ :=
 bif decide (kq5 < (d3.length : Int)) then
  (spec_l5Live d3 n4).bind fun r7 =>
  bif r7 then
   (spec_l5Below d3 kq5 n4).bind fun r8 =>
   bif r8 then
    chk ((b6.length + 1) ≤ bigRow) <|
    kn (d3, n4, (IntKind.wrap .i64 (kq5 + (1 : Int))), (b6 ++ [kq5]), ())
   else
   kn (d3, n4, (IntKind.wrap .i64 (kq5 + (1 : Int))), b6, ())
  else
  kx (b6, ())
 else
 kx (b6, ())
noncomputable def spec_Descendants_l0 (x : (List DEntry) × Int × Int × (List Int) × Unit) : Option (((List DEntry) × Int × Int × (List Int) × Unit) ⊕ ((List Int) × Unit)) :=
  spec_Descendants_l0K x.1 x.2.1 x.2.2.1 x.2.2.2.1 (fun y => some (.inl y)) (fun a => some (.inr a))
theorem spec_Descendants_l0_eq {γ : Type} (d3 : (List DEntry)) (n4 : Int) (kq5 : Int) (b6 : (List Int)) (kn : (List DEntry) × Int × Int × (List Int) × Unit → Option γ) (kx : (List Int) × Unit → Option γ) : spec_Descendants_l0K d3 n4 kq5 b6 kn kx = (spec_Descendants_l0 (d3, n4, kq5, b6, ())).bind fun r => sum2K r kn kx := by
  simp only [spec_Descendants_l0K, spec_Descendants_l0, B0, B1, B2, B3, B4, B5, B6, B7, B8, C1, C2, C3, C4, C5]
noncomputable def spec_DescendantsK {γ : Type} (d1 : (List DEntry)) (n2 : Int) (k : (List Int) → Option γ) : Option γ :=
 (loopF spec_Descendants_l0 (d1, n2, (IntKind.wrap .i64 (n2 + (1 : Int))), [], ())).bind fun z9 =>
 k z9.1
noncomputable def spec_Descendants (d1 : (List DEntry)) (n2 : Int) : Option ((List Int)) :=
  spec_DescendantsK d1 n2 some
theorem spec_Descendants_eq {γ : Type} (d1 : (List DEntry)) (n2 : Int) (k : (List Int) → Option γ) : spec_DescendantsK d1 n2 k = (spec_Descendants d1 n2).bind k := by
  simp only [spec_DescendantsK, spec_Descendants, B0, B1, B2, B3, B4, B5, B6, B7, B8, C1, C2, C3, C4, C5]

/-! loop.example/capkernel/spec.RevokeCap -/
noncomputable def spec_RevokeCap_l0K {γ : Type} (list5 : (List Int)) (kq6 : Int) (b7 : (List DEntry)) (kn : (List Int) × Int × (List DEntry) × Unit → Option γ) (kx : (List DEntry) × Unit → Option γ) : Option γ :=
 bif decide (kq6 < (list5.length : Int)) then
  nnK kq6 fun i8 =>
  getK list5 i8 fun v9 =>
  nnK v9 fun i10 =>
  chk (i10 < b7.length) <|
  getK b7 i10 fun y11 =>
  kn (list5, (IntKind.wrap .i64 (kq6 + (1 : Int))), (b7.set i10 (y11.1, y11.2.1, true, ())), ())
 else
 kx (b7, ())
noncomputable def spec_RevokeCap_l0 (x : (List Int) × Int × (List DEntry) × Unit) : Option (((List Int) × Int × (List DEntry) × Unit) ⊕ ((List DEntry) × Unit)) :=
  spec_RevokeCap_l0K x.1 x.2.1 x.2.2.1 (fun y => some (.inl y)) (fun a => some (.inr a))
theorem spec_RevokeCap_l0_eq {γ : Type} (list5 : (List Int)) (kq6 : Int) (b7 : (List DEntry)) (kn : (List Int) × Int × (List DEntry) × Unit → Option γ) (kx : (List DEntry) × Unit → Option γ) : spec_RevokeCap_l0K list5 kq6 b7 kn kx = (spec_RevokeCap_l0 (list5, kq6, b7, ())).bind fun r => sum2K r kn kx := by
  simp only [spec_RevokeCap_l0K, spec_RevokeCap_l0, B0, B1, B2, B3, B4, B5, B6, B7, B8, C1, C2, C3, C4, C5]
noncomputable def spec_RevokeCapK {γ : Type} (d1 : (List DEntry)) (n2 : Int) (k : (List DEntry) → Option γ) : Option γ :=
 (spec_l5Live d1 n2).bind fun r3 =>
 bif (!r3) then
  k []
 else
 chk (d1.length ≤ bigRow) <|
 (spec_Descendants d1 n2).bind fun r4 =>
 (loopF spec_RevokeCap_l0 (r4, (0 : Int), d1, ())).bind fun z12 =>
 k z12.1
noncomputable def spec_RevokeCap (d1 : (List DEntry)) (n2 : Int) : Option ((List DEntry)) :=
  spec_RevokeCapK d1 n2 some
theorem spec_RevokeCap_eq {γ : Type} (d1 : (List DEntry)) (n2 : Int) (k : (List DEntry) → Option γ) : spec_RevokeCapK d1 n2 k = (spec_RevokeCap d1 n2).bind k := by
  simp only [spec_RevokeCapK, spec_RevokeCap, B0, B1, B2, B3, B4, B5, B6, B7, B8, C1, C2, C3, C4, C5]

/-! loop.example/capkernel/spec.SysRevoke -/
noncomputable def spec_SysRevoke_l0K {γ : Type} (sq9 : Int) (b10 : Int) (b11 : Int) (b12 : Int) (b13 : Int) (b14 : Int) (b15 : Int) (b16 : Int) (b17 : Int) (b18 : (List DEntry)) (b19 : (List Int)) (kn : Int × Int × Int × Int × Int × Int × Int × Int × Int × (List DEntry) × (List Int) × Unit → Option γ) (kx : Int × Int × Int × Int × Int × Int × Int × Int × (List DEntry) × (List Int) × Unit → Option γ) : Option γ :=
 bif decide (sq9 < (b19.length : Int)) then
  nnK sq9 fun i20 =>
  chk (i20 < b19.length) <|
  getK b19 i20 fun v21 =>
  bif decide (v21 ≥ (0 : Int)) then
   nnK sq9 fun i22 =>
   chk (i22 < b19.length) <|
   getK b19 i22 fun v23 =>
   nnK v23 fun i24 =>
   chk (i24 < b18.length) <|
   getK b18 i24 fun v25 =>
   bif v25.2.2.1 then
    nnK sq9 fun i26 =>
    chk (i26 < b19.length) <|
    getK b19 i26 fun y27 =>
    kn ((IntKind.wrap .i64 (sq9 + (1 : Int))), b10, b11, b12, b13, b14, b15, b16, b17, b18, (b19.set i26 (-1 : Int)), ())
   else
   kn ((IntKind.wrap .i64 (sq9 + (1 : Int))), b10, b11, b12, b13, b14, b15, b16, b17, b18, b19, ())
  else
  kn ((IntKind.wrap .i64 (sq9 + (1 : Int))), b10, b11, b12, b13, b14, b15, b16, b17, b18, b19, ())
 else
 kx (b10, b11, b12, b13, b14, b15, b16, b17, b18, b19, ())
noncomputable def spec_SysRevoke_l0 (x : Int × Int × Int × Int × Int × Int × Int × Int × Int × (List DEntry) × (List Int) × Unit) : Option ((Int × Int × Int × Int × Int × Int × Int × Int × Int × (List DEntry) × (List Int) × Unit) ⊕ (Int × Int × Int × Int × Int × Int × Int × Int × (List DEntry) × (List Int) × Unit)) :=
  spec_SysRevoke_l0K x.1 x.2.1 x.2.2.1 x.2.2.2.1 x.2.2.2.2.1 x.2.2.2.2.2.1 x.2.2.2.2.2.2.1 x.2.2.2.2.2.2.2.1 x.2.2.2.2.2.2.2.2.1 x.2.2.2.2.2.2.2.2.2.1 x.2.2.2.2.2.2.2.2.2.2.1 (fun y => some (.inl y)) (fun a => some (.inr a))
theorem spec_SysRevoke_l0_eq {γ : Type} (sq9 : Int) (b10 : Int) (b11 : Int) (b12 : Int) (b13 : Int) (b14 : Int) (b15 : Int) (b16 : Int) (b17 : Int) (b18 : (List DEntry)) (b19 : (List Int)) (kn : Int × Int × Int × Int × Int × Int × Int × Int × Int × (List DEntry) × (List Int) × Unit → Option γ) (kx : Int × Int × Int × Int × Int × Int × Int × Int × (List DEntry) × (List Int) × Unit → Option γ) : spec_SysRevoke_l0K sq9 b10 b11 b12 b13 b14 b15 b16 b17 b18 b19 kn kx = (spec_SysRevoke_l0 (sq9, b10, b11, b12, b13, b14, b15, b16, b17, b18, b19, ())).bind fun r => sum2K r kn kx := by
  simp only [spec_SysRevoke_l0K, spec_SysRevoke_l0, B0, B1, B2, B3, B4, B5, B6, B7, B8, C1, C2, C3, C4, C5]
noncomputable def spec_SysRevokeK {γ : Type} (kq1 : DKernel) (slot2 : Int) (k : Int × Int × Int × Int × Int × (List DEntry) × (List Int) → Option γ) : Option γ :=
 (spec_KernelValid ((kq1.1.1, kq1.1.2.1, kq1.1.2.2.1, ()), kq1.2.1, kq1.2.2.1, kq1.2.2.2.1, ())).bind fun r3 =>
 bif (!r3) then
  k ((0 : Int), (0 : Int), (0 : Int), (0 : Int), (3 : Int), [], [])
 else
 (spec_l25Copy ((kq1.1.1, kq1.1.2.1, kq1.1.2.2.1, ()), kq1.2.1, kq1.2.2.1, kq1.2.2.2.1, ())).bind fun r4 =>
 (spec_l25Slot ((kq1.1.1, kq1.1.2.1, kq1.1.2.2.1, ()), kq1.2.1, kq1.2.2.1, kq1.2.2.2.1, ()) slot2).bind fun r5 =>
 bif (!r5.2) then
  k (r4.1, r4.2.1, r4.2.2.1, r4.2.2.2.1, (1 : Int), r4.2.2.2.2.1, r4.2.2.2.2.2)
 else
 nnK slot2 fun i6 =>
 getK kq1.2.2.1 i6 fun v7 =>
 (spec_RevokeCap kq1.2.1 v7).bind fun r8 =>
 (loopF spec_SysRevoke_l0 ((0 : Int), (0 : Int), (0 : Int), (0 : Int), (0 : Int), r4.1, r4.2.1, r4.2.2.1, r4.2.2.2.1, r8, r4.2.2.2.2.2, ())).bind fun z28 =>
 k (z28.2.2.2.2.1, z28.2.2.2.2.2.1, z28.2.2.2.2.2.2.1, z28.2.2.2.2.2.2.2.1, (0 : Int), z28.2.2.2.2.2.2.2.2.1, z28.2.2.2.2.2.2.2.2.2.1)
noncomputable def spec_SysRevoke (kq1 : DKernel) (slot2 : Int) : Option (Int × Int × Int × Int × Int × (List DEntry) × (List Int)) :=
  spec_SysRevokeK kq1 slot2 some
theorem spec_SysRevoke_eq {γ : Type} (kq1 : DKernel) (slot2 : Int) (k : Int × Int × Int × Int × Int × (List DEntry) × (List Int) → Option γ) : spec_SysRevokeK kq1 slot2 k = (spec_SysRevoke kq1 slot2).bind k := by
  simp only [spec_SysRevokeK, spec_SysRevoke, B0, B1, B2, B3, B4, B5, B6, B7, B8, C1, C2, C3, C4, C5]

/-! (*loop.example/capkernel/spec.l20Rd).odd -/
noncomputable def spec_l20Rd_oddK {γ : Type} (n1 : Int) (b2 : Dl20Rd) (k : Bool × Dl20Rd → Option γ) : Option γ :=
 bif decide (n1 > (0 : Int)) then
  (spec_l20Rd_pick n1 b2).bind fun r3 =>
  k ((r3.1 == (IntKind.wrap .i64 (n1 - (1 : Int)))), r3.2)
 else
 k (false, b2)
noncomputable def spec_l20Rd_odd (n1 : Int) (b2 : Dl20Rd) : Option (Bool × Dl20Rd) :=
  spec_l20Rd_oddK n1 b2 some
theorem spec_l20Rd_odd_eq {γ : Type} (n1 : Int) (b2 : Dl20Rd) (k : Bool × Dl20Rd → Option γ) : spec_l20Rd_oddK n1 b2 k = (spec_l20Rd_odd n1 b2).bind k := by
  simp only [spec_l20Rd_oddK, spec_l20Rd_odd, B0, B1, B2, B3, B4, B5, B6, B7, B8, C1, C2, C3, C4, C5]

/-! loop.example/capkernel/spec.l20Kernel -/
noncomputable def spec_l20Kernel_l0K {γ : Type} (n9 : Int) (j10 : Int) (b11 : Dl20Rd) (b12 : Int) (b13 : Int) (b14 : Int) (b15 : Int) (b16 : Int) (b17 : Int) (b18 : Int) (b19 : Int) (b20 : (List DEntry)) (b21 : (List Int)) (kn : Int × Int × Dl20Rd × Int × Int × Int × Int × Int × Int × Int × Int × (List DEntry) × (List Int) × Unit → Option γ) (kx : Int × Dl20Rd × Int × Int × Int × Int × Int × Int × Int × Int × (List DEntry) × (List Int) × Unit → Option γ) : Option γ :=
 bif decide (j10 > (0 : Int)) then
  (spec_l20Rd_pick (b21.length : Int) b11).bind fun r22 =>
  (spec_l20Rd_pick (b21.length : Int) r22.2).bind fun r23 =>
  (spec_l20Rd_pick (7 : Int) r23.2).bind fun r24 =>
  bif (r24.1 == (0 : Int)) then
   bif (r24.1 == (0 : Int)) then
    (spec_l20Rd_pick (6 : Int) r24.2).bind fun r25 =>
    (spec_SysRetype ((b16, b17, b18, ()), b20, b21, b19, ()) (IntKind.wrap .i64 ((2 : Int) + r25.1)) r22.1).bind fun r26 =>
    kn (n9, (IntKind.wrap .i64 (j10 - (1 : Int))), r25.2, b12, b13, b14, b15, r26.1, r26.2.1, r26.2.2.1, r26.2.2.2.1, r26.2.2.2.2.2.1, r26.2.2.2.2.2.2, ())
   else
   bif (r24.1 == (3 : Int)) then
    bif (r24.1 == (3 : Int)) then
     (spec_l20Rd_pick (16 : Int) r24.2).bind fun r27 =>
     (spec_l20Rd_pick (3 : Int) r27.2).bind fun r28 =>
     (spec_l20Rd_pick (3 : Int) r28.2).bind fun r29 =>
     nnK r29.1 fun i30 =>
     getK [(0 : Int), (0 : Int), (IntKind.wrap .i64 ((1 : Int) + r28.1))] i30 fun v31 =>
     (spec_SysMint ((b16, b17, b18, ()), b20, b21, b19, ()) r22.1 r23.1 r27.1 v31).bind fun r32 =>
     kn (n9, (IntKind.wrap .i64 (j10 - (1 : Int))), r29.2, b12, b13, b14, b15, r32.1, r32.2.1, r32.2.2.1, r32.2.2.2.1, r32.2.2.2.2.2.1, r32.2.2.2.2.2.2, ())
    else
    bif (r24.1 == (5 : Int)) then
     (spec_SysDelete ((b16, b17, b18, ()), b20, b21, b19, ()) r22.1).bind fun r33 =>
     kn (n9, (IntKind.wrap .i64 (j10 - (1 : Int))), r24.2, b12, b13, b14, b15, r33.1, r33.2.1, r33.2.2.1, r33.2.2.2.1, r33.2.2.2.2.2.1, r33.2.2.2.2.2.2, ())
    else
    (spec_SysRevoke ((b16, b17, b18, ()), b20, b21, b19, ()) r22.1).bind fun r34 =>
    kn (n9, (IntKind.wrap .i64 (j10 - (1 : Int))), r24.2, b12, b13, b14, b15, r34.1, r34.2.1, r34.2.2.1, r34.2.2.2.1, r34.2.2.2.2.2.1, r34.2.2.2.2.2.2, ())
   else
   bif (r24.1 == (4 : Int)) then
    (spec_l20Rd_pick (16 : Int) r24.2).bind fun r35 =>
    (spec_l20Rd_pick (3 : Int) r35.2).bind fun r36 =>
    (spec_l20Rd_pick (3 : Int) r36.2).bind fun r37 =>
    nnK r37.1 fun i38 =>
    getK [(0 : Int), (0 : Int), (IntKind.wrap .i64 ((1 : Int) + r36.1))] i38 fun v39 =>
    (spec_SysMint ((b16, b17, b18, ()), b20, b21, b19, ()) r22.1 r23.1 r35.1 v39).bind fun r40 =>
    kn (n9, (IntKind.wrap .i64 (j10 - (1 : Int))), r37.2, b12, b13, b14, b15, r40.1, r40.2.1, r40.2.2.1, r40.2.2.2.1, r40.2.2.2.2.2.1, r40.2.2.2.2.2.2, ())
   else
   bif (r24.1 == (5 : Int)) then
    (spec_SysDelete ((b16, b17, b18, ()), b20, b21, b19, ()) r22.1).bind fun r41 =>
    kn (n9, (IntKind.wrap .i64 (j10 - (1 : Int))), r24.2, b12, b13, b14, b15, r41.1, r41.2.1, r41.2.2.1, r41.2.2.2.1, r41.2.2.2.2.2.1, r41.2.2.2.2.2.2, ())
   else
   (spec_SysRevoke ((b16, b17, b18, ()), b20, b21, b19, ()) r22.1).bind fun r42 =>
   kn (n9, (IntKind.wrap .i64 (j10 - (1 : Int))), r24.2, b12, b13, b14, b15, r42.1, r42.2.1, r42.2.2.1, r42.2.2.2.1, r42.2.2.2.2.2.1, r42.2.2.2.2.2.2, ())
  else
  bif (r24.1 == (1 : Int)) then
   bif (r24.1 == (1 : Int)) then
    (spec_l20Rd_pick (6 : Int) r24.2).bind fun r43 =>
    (spec_SysRetype ((b16, b17, b18, ()), b20, b21, b19, ()) (IntKind.wrap .i64 ((2 : Int) + r43.1)) r22.1).bind fun r44 =>
    kn (n9, (IntKind.wrap .i64 (j10 - (1 : Int))), r43.2, b12, b13, b14, b15, r44.1, r44.2.1, r44.2.2.1, r44.2.2.2.1, r44.2.2.2.2.2.1, r44.2.2.2.2.2.2, ())
   else
   bif (r24.1 == (3 : Int)) then
    bif (r24.1 == (3 : Int)) then
     (spec_l20Rd_pick (16 : Int) r24.2).bind fun r45 =>
     (spec_l20Rd_pick (3 : Int) r45.2).bind fun r46 =>
     (spec_l20Rd_pick (3 : Int) r46.2).bind fun r47 =>
     nnK r47.1 fun i48 =>
     getK [(0 : Int), (0 : Int), (IntKind.wrap .i64 ((1 : Int) + r46.1))] i48 fun v49 =>
     (spec_SysMint ((b16, b17, b18, ()), b20, b21, b19, ()) r22.1 r23.1 r45.1 v49).bind fun r50 =>
     kn (n9, (IntKind.wrap .i64 (j10 - (1 : Int))), r47.2, b12, b13, b14, b15, r50.1, r50.2.1, r50.2.2.1, r50.2.2.2.1, r50.2.2.2.2.2.1, r50.2.2.2.2.2.2, ())
    else
    bif (r24.1 == (5 : Int)) then
     (spec_SysDelete ((b16, b17, b18, ()), b20, b21, b19, ()) r22.1).bind fun r51 =>
     kn (n9, (IntKind.wrap .i64 (j10 - (1 : Int))), r24.2, b12, b13, b14, b15, r51.1, r51.2.1, r51.2.2.1, r51.2.2.2.1, r51.2.2.2.2.2.1, r51.2.2.2.2.2.2, ())
    else
    (spec_SysRevoke ((b16, b17, b18, ()), b20, b21, b19, ()) r22.1).bind fun r52 =>
    kn (n9, (IntKind.wrap .i64 (j10 - (1 : Int))), r24.2, b12, b13, b14, b15, r52.1, r52.2.1, r52.2.2.1, r52.2.2.2.1, r52.2.2.2.2.2.1, r52.2.2.2.2.2.2, ())
   else
   bif (r24.1 == (4 : Int)) then
    (spec_l20Rd_pick (16 : Int) r24.2).bind fun r53 =>
    (spec_l20Rd_pick (3 : Int) r53.2).bind fun r54 =>
    (spec_l20Rd_pick (3 : Int) r54.2).bind fun r55 =>
    nnK r55.1 fun i56 =>
    getK [(0 : Int), (0 : Int), (IntKind.wrap .i64 ((1 : Int) + r54.1))] i56 fun v57 =>
    (spec_SysMint ((b16, b17, b18, ()), b20, b21, b19, ()) r22.1 r23.1 r53.1 v57).bind fun r58 =>
    kn (n9, (IntKind.wrap .i64 (j10 - (1 : Int))), r55.2, b12, b13, b14, b15, r58.1, r58.2.1, r58.2.2.1, r58.2.2.2.1, r58.2.2.2.2.2.1, r58.2.2.2.2.2.2, ())
   else
   bif (r24.1 == (5 : Int)) then
    (spec_SysDelete ((b16, b17, b18, ()), b20, b21, b19, ()) r22.1).bind fun r59 =>
    kn (n9, (IntKind.wrap .i64 (j10 - (1 : Int))), r24.2, b12, b13, b14, b15, r59.1, r59.2.1, r59.2.2.1, r59.2.2.2.1, r59.2.2.2.2.2.1, r59.2.2.2.2.2.2, ())
   else
   (spec_SysRevoke ((b16, b17, b18, ()), b20, b21, b19, ()) r22.1).bind fun r60 =>
   kn (n9, (IntKind.wrap .i64 (j10 - (1 : Int))), r24.2, b12, b13, b14, b15, r60.1, r60.2.1, r60.2.2.1, r60.2.2.2.1, r60.2.2.2.2.2.1, r60.2.2.2.2.2.2, ())
  else
  bif (r24.1 == (2 : Int)) then
   (spec_l20Rd_pick (6 : Int) r24.2).bind fun r61 =>
   (spec_SysRetype ((b16, b17, b18, ()), b20, b21, b19, ()) (IntKind.wrap .i64 ((2 : Int) + r61.1)) r22.1).bind fun r62 =>
   kn (n9, (IntKind.wrap .i64 (j10 - (1 : Int))), r61.2, b12, b13, b14, b15, r62.1, r62.2.1, r62.2.2.1, r62.2.2.2.1, r62.2.2.2.2.2.1, r62.2.2.2.2.2.2, ())
  else
  bif (r24.1 == (3 : Int)) then
   bif (r24.1 == (3 : Int)) then
    (spec_l20Rd_pick (16 : Int) r24.2).bind fun r63 =>
    (spec_l20Rd_pick (3 : Int) r63.2).bind fun r64 =>
    (spec_l20Rd_pick (3 : Int) r64.2).bind fun r65 =>
    nnK r65.1 fun i66 =>
    getK [(0 : Int), (0 : Int), (IntKind.wrap .i64 ((1 : Int) + r64.1))] i66 fun v67 =>
    (spec_SysMint ((b16, b17, b18, ()), b20, b21, b19, ()) r22.1 r23.1 r63.1 v67).bind fun r68 =>
    kn (n9, (IntKind.wrap .i64 (j10 - (1 : Int))), r65.2, b12, b13, b14, b15, r68.1, r68.2.1, r68.2.2.1, r68.2.2.2.1, r68.2.2.2.2.2.1, r68.2.2.2.2.2.2, ())
   else
   bif (r24.1 == (5 : Int)) then
    (spec_SysDelete ((b16, b17, b18, ()), b20, b21, b19, ()) r22.1).bind fun r69 =>
    kn (n9, (IntKind.wrap .i64 (j10 - (1 : Int))), r24.2, b12, b13, b14, b15, r69.1, r69.2.1, r69.2.2.1, r69.2.2.2.1, r69.2.2.2.2.2.1, r69.2.2.2.2.2.2, ())
   else
   (spec_SysRevoke ((b16, b17, b18, ()), b20, b21, b19, ()) r22.1).bind fun r70 =>
   kn (n9, (IntKind.wrap .i64 (j10 - (1 : Int))), r24.2, b12, b13, b14, b15, r70.1, r70.2.1, r70.2.2.1, r70.2.2.2.1, r70.2.2.2.2.2.1, r70.2.2.2.2.2.2, ())
  else
  bif (r24.1 == (4 : Int)) then
   (spec_l20Rd_pick (16 : Int) r24.2).bind fun r71 =>
   (spec_l20Rd_pick (3 : Int) r71.2).bind fun r72 =>
   (spec_l20Rd_pick (3 : Int) r72.2).bind fun r73 =>
   nnK r73.1 fun i74 =>
   getK [(0 : Int), (0 : Int), (IntKind.wrap .i64 ((1 : Int) + r72.1))] i74 fun v75 =>
   (spec_SysMint ((b16, b17, b18, ()), b20, b21, b19, ()) r22.1 r23.1 r71.1 v75).bind fun r76 =>
   kn (n9, (IntKind.wrap .i64 (j10 - (1 : Int))), r73.2, b12, b13, b14, b15, r76.1, r76.2.1, r76.2.2.1, r76.2.2.2.1, r76.2.2.2.2.2.1, r76.2.2.2.2.2.2, ())
  else
  bif (r24.1 == (5 : Int)) then
   (spec_SysDelete ((b16, b17, b18, ()), b20, b21, b19, ()) r22.1).bind fun r77 =>
   kn (n9, (IntKind.wrap .i64 (j10 - (1 : Int))), r24.2, b12, b13, b14, b15, r77.1, r77.2.1, r77.2.2.1, r77.2.2.2.1, r77.2.2.2.2.2.1, r77.2.2.2.2.2.2, ())
  else
  (spec_SysRevoke ((b16, b17, b18, ()), b20, b21, b19, ()) r22.1).bind fun r78 =>
  kn (n9, (IntKind.wrap .i64 (j10 - (1 : Int))), r24.2, b12, b13, b14, b15, r78.1, r78.2.1, r78.2.2.1, r78.2.2.2.1, r78.2.2.2.2.2.1, r78.2.2.2.2.2.2, ())
 else
 kx (n9, b11, b12, b13, b14, b15, b16, b17, b18, b19, b20, b21, ())
noncomputable def spec_l20Kernel_l0 (x : Int × Int × Dl20Rd × Int × Int × Int × Int × Int × Int × Int × Int × (List DEntry) × (List Int) × Unit) : Option ((Int × Int × Dl20Rd × Int × Int × Int × Int × Int × Int × Int × Int × (List DEntry) × (List Int) × Unit) ⊕ (Int × Dl20Rd × Int × Int × Int × Int × Int × Int × Int × Int × (List DEntry) × (List Int) × Unit)) :=
  spec_l20Kernel_l0K x.1 x.2.1 x.2.2.1 x.2.2.2.1 x.2.2.2.2.1 x.2.2.2.2.2.1 x.2.2.2.2.2.2.1 x.2.2.2.2.2.2.2.1 x.2.2.2.2.2.2.2.2.1 x.2.2.2.2.2.2.2.2.2.1 x.2.2.2.2.2.2.2.2.2.2.1 x.2.2.2.2.2.2.2.2.2.2.2.1 x.2.2.2.2.2.2.2.2.2.2.2.2.1 (fun y => some (.inl y)) (fun a => some (.inr a))
theorem spec_l20Kernel_l0_eq {γ : Type} (n9 : Int) (j10 : Int) (b11 : Dl20Rd) (b12 : Int) (b13 : Int) (b14 : Int) (b15 : Int) (b16 : Int) (b17 : Int) (b18 : Int) (b19 : Int) (b20 : (List DEntry)) (b21 : (List Int)) (kn : Int × Int × Dl20Rd × Int × Int × Int × Int × Int × Int × Int × Int × (List DEntry) × (List Int) × Unit → Option γ) (kx : Int × Dl20Rd × Int × Int × Int × Int × Int × Int × Int × Int × (List DEntry) × (List Int) × Unit → Option γ) : spec_l20Kernel_l0K n9 j10 b11 b12 b13 b14 b15 b16 b17 b18 b19 b20 b21 kn kx = (spec_l20Kernel_l0 (n9, j10, b11, b12, b13, b14, b15, b16, b17, b18, b19, b20, b21, ())).bind fun r => sum2K r kn kx := by
  simp only [spec_l20Kernel_l0K, spec_l20Kernel_l0, B0, B1, B2, B3, B4, B5, B6, B7, B8, C1, C2, C3, C4, C5]
noncomputable def spec_l20KernelK {γ : Type} (n1 : Int) (b2 : Dl20Rd) (k : Int × Int × Int × Int × Dl20Rd × (List DEntry) × (List Int) → Option γ) : Option γ :=
 (spec_l20Rd_pick (3 : Int) b2).bind fun r3 =>
 nnK r3.1 fun i4 =>
 getK [(16 : Int), (12 : Int), (8 : Int)] i4 fun v5 =>
 (spec_l20Rd_pick (9 : Int) r3.2).bind fun r6 =>
 (spec_NewKernel v5 (IntKind.wrap .i64 ((1 : Int) + r6.1))).bind fun r7 =>
 (spec_l20Rd_pick (14 : Int) r6.2).bind fun r8 =>
 (loopF spec_l20Kernel_l0 (n1, r8.1, r8.2, (0 : Int), (0 : Int), (0 : Int), (0 : Int), r7.1, r7.2.1, r7.2.2.1, r7.2.2.2.1, r7.2.2.2.2.1, r7.2.2.2.2.2, ())).bind fun z79 =>
 (spec_l20Rd_odd z79.1 z79.2.1).bind fun r80 =>
 bif r80.1 then
  (spec_l20Rd_pick (4 : Int) r80.2).bind fun r81 =>
  bif (r81.1 == (0 : Int)) then
   (spec_l20Rd_pick (2 : Int) r81.2).bind fun r82 =>
   nnK r82.1 fun i83 =>
   getK [(-1 : Int), (101 : Int)] i83 fun v84 =>
   k (z79.2.2.2.2.2.2.1, z79.2.2.2.2.2.2.2.1, z79.2.2.2.2.2.2.2.2.1, v84, r82.2, z79.2.2.2.2.2.2.2.2.2.2.1, z79.2.2.2.2.2.2.2.2.2.2.2.1)
  else
  bif (r81.1 == (1 : Int)) then
   chk ((z79.2.2.2.2.2.2.2.2.2.2.2.1.length + 1) ≤ bigRow) <|
   k (z79.2.2.2.2.2.2.1, z79.2.2.2.2.2.2.2.1, z79.2.2.2.2.2.2.2.2.1, z79.2.2.2.2.2.2.2.2.2.1, r81.2, z79.2.2.2.2.2.2.2.2.2.2.1, (z79.2.2.2.2.2.2.2.2.2.2.2.1 ++ [(29 : Int)]))
  else
  bif (r81.1 == (2 : Int)) then
   k (z79.2.2.2.2.2.2.1, z79.2.2.2.2.2.2.2.1, (-1 : Int), z79.2.2.2.2.2.2.2.2.2.1, r81.2, z79.2.2.2.2.2.2.2.2.2.2.1, z79.2.2.2.2.2.2.2.2.2.2.2.1)
  else
  chk ((z79.2.2.2.2.2.2.2.2.2.2.1.length + 1) ≤ bigRow) <|
  k (z79.2.2.2.2.2.2.1, z79.2.2.2.2.2.2.2.1, z79.2.2.2.2.2.2.2.2.1, z79.2.2.2.2.2.2.2.2.2.1, r81.2, (z79.2.2.2.2.2.2.2.2.2.2.1 ++ [(((6 : Int), (50 : Int), (1 : Int), (0 : Int), ()), (-1 : Int), false, ())]), z79.2.2.2.2.2.2.2.2.2.2.2.1)
 else
 k (z79.2.2.2.2.2.2.1, z79.2.2.2.2.2.2.2.1, z79.2.2.2.2.2.2.2.2.1, z79.2.2.2.2.2.2.2.2.2.1, r80.2, z79.2.2.2.2.2.2.2.2.2.2.1, z79.2.2.2.2.2.2.2.2.2.2.2.1)
noncomputable def spec_l20Kernel (n1 : Int) (b2 : Dl20Rd) : Option (Int × Int × Int × Int × Dl20Rd × (List DEntry) × (List Int)) :=
  spec_l20KernelK n1 b2 some
theorem spec_l20Kernel_eq {γ : Type} (n1 : Int) (b2 : Dl20Rd) (k : Int × Int × Int × Int × Dl20Rd × (List DEntry) × (List Int) → Option γ) : spec_l20KernelK n1 b2 k = (spec_l20Kernel n1 b2).bind k := by
  simp only [spec_l20KernelK, spec_l20Kernel, B0, B1, B2, B3, B4, B5, B6, B7, B8, C1, C2, C3, C4, C5]

/-! loop.example/capkernel/spec.l20Site -/
noncomputable def spec_l20SiteK {γ : Type} (kq1 : Int) (kq2 : Int) (kq3 : Int) (kq4 : Int) (b5 : Dl20Rd) (b6 : (List DEntry)) (b7 : (List Int)) (k : Int × Dl20Rd × (List DEntry) × (List Int) → Option γ) : Option γ :=
 (spec_l20Rd_pick (IntKind.wrap .i64 ((b7.length : Int) + (1 : Int))) b5).bind fun r8 =>
 (spec_l20Rd_pick (16 : Int) r8.2).bind fun r9 =>
 k ((IntKind.wrap .i64 (r8.1 - (IntKind.wrap .i64 (Int.tdiv r9.1 (15 : Int))))), r9.2, b6, b7)
noncomputable def spec_l20Site (kq1 : Int) (kq2 : Int) (kq3 : Int) (kq4 : Int) (b5 : Dl20Rd) (b6 : (List DEntry)) (b7 : (List Int)) : Option (Int × Dl20Rd × (List DEntry) × (List Int)) :=
  spec_l20SiteK kq1 kq2 kq3 kq4 b5 b6 b7 some
theorem spec_l20Site_eq {γ : Type} (kq1 : Int) (kq2 : Int) (kq3 : Int) (kq4 : Int) (b5 : Dl20Rd) (b6 : (List DEntry)) (b7 : (List Int)) (k : Int × Dl20Rd × (List DEntry) × (List Int) → Option γ) : spec_l20SiteK kq1 kq2 kq3 kq4 b5 b6 b7 k = (spec_l20Site kq1 kq2 kq3 kq4 b5 b6 b7).bind k := by
  simp only [spec_l20SiteK, spec_l20Site, B0, B1, B2, B3, B4, B5, B6, B7, B8, C1, C2, C3, C4, C5]

/-! loop.example/capkernel/spec.l20Rights -/
noncomputable def spec_l20RightsK {γ : Type} (n1 : Int) (b2 : Dl20Rd) (k : Int × Dl20Rd → Option γ) : Option γ :=
 (spec_l20Rd_odd n1 b2).bind fun r3 =>
 bif r3.1 then
  (spec_l20Rd_pick (2 : Int) r3.2).bind fun r4 =>
  nnK r4.1 fun i5 =>
  getK [(-1 : Int), (16 : Int)] i5 fun v6 =>
  k (v6, r4.2)
 else
 (spec_l20Rd_pick (16 : Int) r3.2).bind fun r7 =>
 (spec_l20Rd_pick (16 : Int) r7.2).bind fun r8 =>
 (spec_l20Rd_pick (3 : Int) r8.2).bind fun r9 =>
 nnK r9.1 fun i10 =>
 getK [r7.1, (15 : Int), r8.1] i10 fun v11 =>
 k (v11, r9.2)
noncomputable def spec_l20Rights (n1 : Int) (b2 : Dl20Rd) : Option (Int × Dl20Rd) :=
  spec_l20RightsK n1 b2 some
theorem spec_l20Rights_eq {γ : Type} (n1 : Int) (b2 : Dl20Rd) (k : Int × Dl20Rd → Option γ) : spec_l20RightsK n1 b2 k = (spec_l20Rights n1 b2).bind k := by
  simp only [spec_l20RightsK, spec_l20Rights, B0, B1, B2, B3, B4, B5, B6, B7, B8, C1, C2, C3, C4, C5]

/-! loop.example/capkernel/spec.DrawSysMint -/
noncomputable def spec_DrawSysMintK {γ : Type} (code1 : (List Int)) (k : Int × Int × Int × Int × Int × Int × Int × Int × (List DEntry) × (List Int) → Option γ) : Option γ :=
 (spec_l20Open code1).bind fun r2 =>
 (spec_l20Kernel (14 : Int) r2).bind fun r3 =>
 (spec_l20Site r3.1 r3.2.1 r3.2.2.1 r3.2.2.2.1 r3.2.2.2.2.1 r3.2.2.2.2.2.1 r3.2.2.2.2.2.2).bind fun r4 =>
 (spec_l20Site r3.1 r3.2.1 r3.2.2.1 r3.2.2.2.1 r4.2.1 r4.2.2.1 r4.2.2.2).bind fun r5 =>
 (spec_l20Rights (14 : Int) r5.2.1).bind fun r6 =>
 (spec_l20Rd_pick (4 : Int) r6.2).bind fun r7 =>
 (spec_l20Rd_pick (6 : Int) r7.2).bind fun r8 =>
 nnK r8.1 fun i9 =>
 getK [(0 : Int), (0 : Int), (1 : Int), (2 : Int), (2 : Int), (3 : Int)] i9 fun v10 =>
 nnK v10 fun i11 =>
 getK [(0 : Int), (0 : Int), (IntKind.wrap .i64 ((1 : Int) + r7.1)), (-1 : Int)] i11 fun v12 =>
 k (r3.1, r3.2.1, r3.2.2.1, r3.2.2.2.1, r4.1, r5.1, r6.1, v12, r5.2.2.1, r5.2.2.2)
noncomputable def spec_DrawSysMint (code1 : (List Int)) : Option (Int × Int × Int × Int × Int × Int × Int × Int × (List DEntry) × (List Int)) :=
  spec_DrawSysMintK code1 some
theorem spec_DrawSysMint_eq {γ : Type} (code1 : (List Int)) (k : Int × Int × Int × Int × Int × Int × Int × Int × (List DEntry) × (List Int) → Option γ) : spec_DrawSysMintK code1 k = (spec_DrawSysMint code1).bind k := by
  simp only [spec_DrawSysMintK, spec_DrawSysMint, B0, B1, B2, B3, B4, B5, B6, B7, B8, C1, C2, C3, C4, C5]

/-! loop.example/capkernel/impl.in -/
noncomputable def impl_inK {γ : Type} (n1 : Int) (lo2 : Int) (hi3 : Int) (k : Bool → Option γ) : Option γ :=
 bif decide (n1 ≥ lo2) then
  k (decide (n1 ≤ hi3))
 else
 k false
noncomputable def impl_in (n1 : Int) (lo2 : Int) (hi3 : Int) : Option (Bool) :=
  impl_inK n1 lo2 hi3 some
theorem impl_in_eq {γ : Type} (n1 : Int) (lo2 : Int) (hi3 : Int) (k : Bool → Option γ) : impl_inK n1 lo2 hi3 k = (impl_in n1 lo2 hi3).bind k := by
  simp only [impl_inK, impl_in, B0, B1, B2, B3, B4, B5, B6, B7, B8, C1, C2, C3, C4, C5]

/-! loop.example/capkernel/impl.PieceValid -/
noncomputable def impl_PieceValidK {γ : Type} (p1 : DPiece) (k : Bool → Option γ) : Option γ :=
 (impl_in p1.2.1 (0 : Int) (16 : Int)).bind fun r2 =>
 bif r2 then
  chk (0 ≤ p1.2.1) <|
  (impl_in p1.1 (0 : Int) (IntKind.wrap .i64 ((65536 : Int) - (IntKind.wrap .i64 ((1 : Int) * 2 ^ (min (p1.2.1).toNat 64)))))).bind fun r3 =>
  bif r3 then
   chk (0 ≤ p1.2.1) <|
   chk ((IntKind.wrap .i64 ((1 : Int) * 2 ^ (min (p1.2.1).toNat 64))) ≠ 0) <|
   bif ((Int.tmod p1.1 (IntKind.wrap .i64 ((1 : Int) * 2 ^ (min (p1.2.1).toNat 64)))) == (0 : Int)) then
    chk (0 ≤ p1.2.1) <|
    (impl_in p1.2.2.1 (0 : Int) (IntKind.wrap .i64 ((1 : Int) * 2 ^ (min (p1.2.1).toNat 64)))).bind fun r4 =>
    k r4
   else
   k false
  else
  k false
 else
 k false
noncomputable def impl_PieceValid (p1 : DPiece) : Option (Bool) :=
  impl_PieceValidK p1 some
theorem impl_PieceValid_eq {γ : Type} (p1 : DPiece) (k : Bool → Option γ) : impl_PieceValidK p1 k = (impl_PieceValid p1).bind k := by
  simp only [impl_PieceValidK, impl_PieceValid, B0, B1, B2, B3, B4, B5, B6, B7, B8, C1, C2, C3, C4, C5]

/-! loop.example/capkernel/impl.isObject -/
noncomputable def impl_isObjectK {γ : Type} (n1 : Int) (k : Bool → Option γ) : Option γ :=
 (impl_in n1 (0 : Int) (99 : Int)).bind fun r2 =>
 k r2
noncomputable def impl_isObject (n1 : Int) : Option (Bool) :=
  impl_isObjectK n1 some
theorem impl_isObject_eq {γ : Type} (n1 : Int) (k : Bool → Option γ) : impl_isObjectK n1 k = (impl_isObject n1).bind k := by
  simp only [impl_isObjectK, impl_isObject, B0, B1, B2, B3, B4, B5, B6, B7, B8, C1, C2, C3, C4, C5]

/-! loop.example/capkernel/impl.RightsValid -/
noncomputable def impl_RightsValidK {γ : Type} (n1 : Int) (k : Bool → Option γ) : Option γ :=
 (impl_in n1 (0 : Int) (15 : Int)).bind fun r2 =>
 k r2
noncomputable def impl_RightsValid (n1 : Int) : Option (Bool) :=
  impl_RightsValidK n1 some
theorem impl_RightsValid_eq {γ : Type} (n1 : Int) (k : Bool → Option γ) : impl_RightsValidK n1 k = (impl_RightsValid n1).bind k := by
  simp only [impl_RightsValidK, impl_RightsValid, B0, B1, B2, B3, B4, B5, B6, B7, B8, C1, C2, C3, C4, C5]

/-! loop.example/capkernel/impl.badged -/
noncomputable def impl_badgedK {γ : Type} (kind1 : Int) (k : Bool → Option γ) : Option γ :=
 bif (!(kind1 == (4 : Int))) then
  k (kind1 == (5 : Int))
 else
 k true
noncomputable def impl_badged (kind1 : Int) : Option (Bool) :=
  impl_badgedK kind1 some
theorem impl_badged_eq {γ : Type} (kind1 : Int) (k : Bool → Option γ) : impl_badgedK kind1 k = (impl_badged kind1).bind k := by
  simp only [impl_badgedK, impl_badged, B0, B1, B2, B3, B4, B5, B6, B7, B8, C1, C2, C3, C4, C5]

/-! loop.example/capkernel/impl.CapValid -/
noncomputable def impl_CapValidK {γ : Type} (c1 : DCap) (k : Bool → Option γ) : Option γ :=
 bif (c1.1 == (0 : Int)) then
  k ((decide (c1.1 = (0 : Int)) && (decide (c1.2.1 = (0 : Int)) && (decide (c1.2.2.1 = (0 : Int)) && (decide (c1.2.2.2.1 = (0 : Int)) && true)))))
 else
 (impl_in c1.1 (1 : Int) (7 : Int)).bind fun r2 =>
 bif r2 then
  (impl_isObject c1.2.1).bind fun r3 =>
  bif r3 then
   (impl_RightsValid c1.2.2.1).bind fun r4 =>
   bif r4 then
    (impl_badged c1.1).bind fun r5 =>
    bif r5 then
     (impl_in c1.2.2.2.1 (0 : Int) (999 : Int)).bind fun r6 =>
     bif (!r6) then
      k (c1.2.2.2.1 == (0 : Int))
     else
     k true
    else
    k (c1.2.2.2.1 == (0 : Int))
   else
   k false
  else
  k false
 else
 k false
noncomputable def impl_CapValid (c1 : DCap) : Option (Bool) :=
  impl_CapValidK c1 some
theorem impl_CapValid_eq {γ : Type} (c1 : DCap) (k : Bool → Option γ) : impl_CapValidK c1 k = (impl_CapValid c1).bind k := by
  simp only [impl_CapValidK, impl_CapValid, B0, B1, B2, B3, B4, B5, B6, B7, B8, C1, C2, C3, C4, C5]

/-! loop.example/capkernel/impl.CapWithin -/
noncomputable def impl_CapWithinK {γ : Type} (a1 : DCap) (b2 : DCap) (k : Bool → Option γ) : Option γ :=
 (impl_CapValid (a1.1, a1.2.1, a1.2.2.1, a1.2.2.2.1, ())).bind fun r3 =>
 bif r3 then
  (impl_CapValid (b2.1, b2.2.1, b2.2.2.1, b2.2.2.2.1, ())).bind fun r4 =>
  bif r4 then
   bif (a1.1 == b2.1) then
    bif (a1.2.1 == b2.2.1) then
     bif ((IntKind.wrap .i64 (((BitVec.ofInt 64 a1.2.2.1 &&& ~~~(BitVec.ofInt 64 b2.2.2.1)).toNat : Int))) == (0 : Int)) then
      bif (!(a1.2.2.2.1 == b2.2.2.2.1)) then
       k (b2.2.2.2.1 == (0 : Int))
      else
      k true
     else
     k false
    else
    k false
   else
   k false
  else
  k false
 else
 k false
noncomputable def impl_CapWithin (a1 : DCap) (b2 : DCap) : Option (Bool) :=
  impl_CapWithinK a1 b2 some
theorem impl_CapWithin_eq {γ : Type} (a1 : DCap) (b2 : DCap) (k : Bool → Option γ) : impl_CapWithinK a1 b2 k = (impl_CapWithin a1 b2).bind k := by
  simp only [impl_CapWithinK, impl_CapWithin, B0, B1, B2, B3, B4, B5, B6, B7, B8, C1, C2, C3, C4, C5]

/-! loop.example/capkernel/impl.DerivationValid -/
noncomputable def impl_DerivationValid_l0K {γ : Type} (d2 : (List DEntry)) (a3 : (List DEntry)) (a4 : Int) (a5 : Int) (kn : (List DEntry) × (List DEntry) × Int × Int × Unit → Option γ) (kx : (List DEntry) × Unit → Option γ) (kr : Bool × Unit → Option γ) : Option γ :=
 bif decide (a5 < a4) then
  nnK a5 fun i6 =>
  getK a3 i6 fun v7 =>
  (impl_CapValid (v7.1.1, v7.1.2.1, v7.1.2.2.1, v7.1.2.2.2.1, ())).bind fun r8 =>
  bif (!(!r8)) then
   bif (!(v7.1.1 == (0 : Int))) then
    (impl_in v7.2.1 (-1 : Int) (IntKind.wrap .i64 (a5 - (1 : Int)))).bind fun r9 =>
    bif (!r9) then
     kr (false, ())
    else
    bif (!v7.2.2.1) then
     bif decide (v7.2.1 ≥ (0 : Int)) then
      nnK v7.2.1 fun i10 =>
      getK d2 i10 fun v11 =>
      bif (!v11.2.2.1) then
       nnK v7.2.1 fun i12 =>
       getK d2 i12 fun v13 =>
       (impl_CapWithin (v7.1.1, v7.1.2.1, v7.1.2.2.1, v7.1.2.2.2.1, ()) v13.1).bind fun r14 =>
       bif (!r14) then
        kr (false, ())
       else
       kn (d2, a3, a4, (IntKind.wrap .i64 (a5 + (1 : Int))), ())
      else
      kr (false, ())
     else
     kn (d2, a3, a4, (IntKind.wrap .i64 (a5 + (1 : Int))), ())
    else
    kn (d2, a3, a4, (IntKind.wrap .i64 (a5 + (1 : Int))), ())
   else
   kr (false, ())
  else
  kr (false, ())
 else
 kx (d2, ())
noncomputable def impl_DerivationValid_l0 (x : (List DEntry) × (List DEntry) × Int × Int × Unit) : Option (((List DEntry) × (List DEntry) × Int × Int × Unit) ⊕ (((List DEntry) × Unit) ⊕ (Bool × Unit))) :=
  impl_DerivationValid_l0K x.1 x.2.1 x.2.2.1 x.2.2.2.1 (fun y => some (.inl y)) (fun a => some (.inr (.inl a))) (fun b => some (.inr (.inr b)))
theorem impl_DerivationValid_l0_eq {γ : Type} (d2 : (List DEntry)) (a3 : (List DEntry)) (a4 : Int) (a5 : Int) (kn : (List DEntry) × (List DEntry) × Int × Int × Unit → Option γ) (kx : (List DEntry) × Unit → Option γ) (kr : Bool × Unit → Option γ) : impl_DerivationValid_l0K d2 a3 a4 a5 kn kx kr = (impl_DerivationValid_l0 (d2, a3, a4, a5, ())).bind fun r => sum3K r kn kx kr := by
  simp only [impl_DerivationValid_l0K, impl_DerivationValid_l0, B0, B1, B2, B3, B4, B5, B6, B7, B8, C1, C2, C3, C4, C5]
noncomputable def impl_DerivationValidK {γ : Type} (d1 : (List DEntry)) (k : Bool → Option γ) : Option γ :=
 (loopF impl_DerivationValid_l0 (d1, d1, (d1.length : Int), (0 : Int), ())).bind fun q => endK q (fun z15 =>
  k (decide ((z15.1.length : Int) ≤ (30 : Int)))) (fun z16 =>
  k z16.1)
noncomputable def impl_DerivationValid (d1 : (List DEntry)) : Option (Bool) :=
  impl_DerivationValidK d1 some
theorem impl_DerivationValid_eq {γ : Type} (d1 : (List DEntry)) (k : Bool → Option γ) : impl_DerivationValidK d1 k = (impl_DerivationValid d1).bind k := by
  simp only [impl_DerivationValidK, impl_DerivationValid, B0, B1, B2, B3, B4, B5, B6, B7, B8, C1, C2, C3, C4, C5]

/-! slices.Index(()int,int) -/
noncomputable def slices_Index_int_l0K {γ : Type} (sq3 : (List Int)) (a4 : Int) (a5 : Int) (a6 : Int) (kn : (List Int) × Int × Int × Int × Unit → Option γ) (kx : Unit → Option γ) (kr : Int × Unit → Option γ) : Option γ :=
 bif decide (a6 < a5) then
  nnK a6 fun i7 =>
  getK sq3 i7 fun v8 =>
  bif (a4 == v8) then
   kr (a6, ())
  else
  kn (sq3, a4, a5, (IntKind.wrap .i64 (a6 + (1 : Int))), ())
 else
 kx ()
noncomputable def slices_Index_int_l0 (x : (List Int) × Int × Int × Int × Unit) : Option (((List Int) × Int × Int × Int × Unit) ⊕ ((Unit) ⊕ (Int × Unit))) :=
  slices_Index_int_l0K x.1 x.2.1 x.2.2.1 x.2.2.2.1 (fun y => some (.inl y)) (fun a => some (.inr (.inl a))) (fun b => some (.inr (.inr b)))
theorem slices_Index_int_l0_eq {γ : Type} (sq3 : (List Int)) (a4 : Int) (a5 : Int) (a6 : Int) (kn : (List Int) × Int × Int × Int × Unit → Option γ) (kx : Unit → Option γ) (kr : Int × Unit → Option γ) : slices_Index_int_l0K sq3 a4 a5 a6 kn kx kr = (slices_Index_int_l0 (sq3, a4, a5, a6, ())).bind fun r => sum3K r kn kx kr := by
  simp only [slices_Index_int_l0K, slices_Index_int_l0, B0, B1, B2, B3, B4, B5, B6, B7, B8, C1, C2, C3, C4, C5]
noncomputable def slices_Index_intK {γ : Type} (sq1 : (List Int)) (p2 : Int) (k : Int → Option γ) : Option γ :=
 (loopF slices_Index_int_l0 (sq1, p2, (sq1.length : Int), (0 : Int), ())).bind fun q => endK q (fun z9 =>
  k (-1 : Int)) (fun z10 =>
  k z10.1)
noncomputable def slices_Index_int (sq1 : (List Int)) (p2 : Int) : Option (Int) :=
  slices_Index_intK sq1 p2 some
theorem slices_Index_int_eq {γ : Type} (sq1 : (List Int)) (p2 : Int) (k : Int → Option γ) : slices_Index_intK sq1 p2 k = (slices_Index_int sq1 p2).bind k := by
  simp only [slices_Index_intK, slices_Index_int, B0, B1, B2, B3, B4, B5, B6, B7, B8, C1, C2, C3, C4, C5]

/-! slices.Contains(()int,int) -/
noncomputable def slices_Contains_intK {γ : Type} (sq1 : (List Int)) (p2 : Int) (k : Bool → Option γ) : Option γ :=
 (slices_Index_int sq1 p2).bind fun r3 =>
 k (decide (r3 ≥ (0 : Int)))
noncomputable def slices_Contains_int (sq1 : (List Int)) (p2 : Int) : Option (Bool) :=
  slices_Contains_intK sq1 p2 some
theorem slices_Contains_int_eq {γ : Type} (sq1 : (List Int)) (p2 : Int) (k : Bool → Option γ) : slices_Contains_intK sq1 p2 k = (slices_Contains_int sq1 p2).bind k := by
  simp only [slices_Contains_intK, slices_Contains_int, B0, B1, B2, B3, B4, B5, B6, B7, B8, C1, C2, C3, C4, C5]

/-! loop.example/capkernel/impl.PlacesValid -/
noncomputable def impl_PlacesValid_l0K {γ : Type} (list2 : (List Int)) (a3 : (List Int)) (a4 : Int) (a5 : Int) (kn : (List Int) × (List Int) × Int × Int × Unit → Option γ) (kx : (List Int) × Unit → Option γ) (kr : Bool × Unit → Option γ) : Option γ :=
 bif decide (a5 < a4) then
  nnK a5 fun i6 =>
  getK a3 i6 fun v7 =>
  (impl_in v7 (-1 : Int) (29 : Int)).bind fun r8 =>
  bif (!(!r8)) then
   bif decide (v7 ≥ (0 : Int)) then
    nnK a5 fun i9 =>
    chk (i9 ≤ list2.length) <|
    (slices_Contains_int (list2.take i9) v7).bind fun r10 =>
    bif r10 then
     kr (false, ())
    else
    kn (list2, a3, a4, (IntKind.wrap .i64 (a5 + (1 : Int))), ())
   else
   kn (list2, a3, a4, (IntKind.wrap .i64 (a5 + (1 : Int))), ())
  else
  kr (false, ())
 else
 kx (list2, ())
noncomputable def impl_PlacesValid_l0 (x : (List Int) × (List Int) × Int × Int × Unit) : Option (((List Int) × (List Int) × Int × Int × Unit) ⊕ (((List Int) × Unit) ⊕ (Bool × Unit))) :=
  impl_PlacesValid_l0K x.1 x.2.1 x.2.2.1 x.2.2.2.1 (fun y => some (.inl y)) (fun a => some (.inr (.inl a))) (fun b => some (.inr (.inr b)))
theorem impl_PlacesValid_l0_eq {γ : Type} (list2 : (List Int)) (a3 : (List Int)) (a4 : Int) (a5 : Int) (kn : (List Int) × (List Int) × Int × Int × Unit → Option γ) (kx : (List Int) × Unit → Option γ) (kr : Bool × Unit → Option γ) : impl_PlacesValid_l0K list2 a3 a4 a5 kn kx kr = (impl_PlacesValid_l0 (list2, a3, a4, a5, ())).bind fun r => sum3K r kn kx kr := by
  simp only [impl_PlacesValid_l0K, impl_PlacesValid_l0, B0, B1, B2, B3, B4, B5, B6, B7, B8, C1, C2, C3, C4, C5]
noncomputable def impl_PlacesValidK {γ : Type} (list1 : (List Int)) (k : Bool → Option γ) : Option γ :=
 (loopF impl_PlacesValid_l0 (list1, list1, (list1.length : Int), (0 : Int), ())).bind fun q => endK q (fun z11 =>
  k (decide ((z11.1.length : Int) ≤ (40 : Int)))) (fun z12 =>
  k z12.1)
noncomputable def impl_PlacesValid (list1 : (List Int)) : Option (Bool) :=
  impl_PlacesValidK list1 some
theorem impl_PlacesValid_eq {γ : Type} (list1 : (List Int)) (k : Bool → Option γ) : impl_PlacesValidK list1 k = (impl_PlacesValid list1).bind k := by
  simp only [impl_PlacesValidK, impl_PlacesValid, B0, B1, B2, B3, B4, B5, B6, B7, B8, C1, C2, C3, C4, C5]

/-! loop.example/capkernel/impl.KernelValid$1 -/
noncomputable def impl_KernelValid_c1K {γ : Type} (n1 : Int) (p2 : DKernel) (k : Bool → Option γ) : Option γ :=
 k (decide (n1 ≥ (p2.2.1.length : Int)))
noncomputable def impl_KernelValid_c1 (n1 : Int) (p2 : DKernel) : Option (Bool) :=
  impl_KernelValid_c1K n1 p2 some
theorem impl_KernelValid_c1_eq {γ : Type} (n1 : Int) (p2 : DKernel) (k : Bool → Option γ) : impl_KernelValid_c1K n1 p2 k = (impl_KernelValid_c1 n1 p2).bind k := by
  simp only [impl_KernelValid_c1K, impl_KernelValid_c1, B0, B1, B2, B3, B4, B5, B6, B7, B8, C1, C2, C3, C4, C5]

/-! slices.IndexFunc(()int,int) -/
noncomputable def slices_IndexFunc_int_l0K {γ : Type} (sq3 : (List Int)) (f4 : DKernel) (a5 : Int) (a6 : Int) (kn : (List Int) × DKernel × Int × Int × Unit → Option γ) (kx : Unit → Option γ) (kr : Int × Unit → Option γ) : Option γ :=
 bif decide (a6 < a5) then
  nnK a6 fun i7 =>
  getK sq3 i7 fun v8 =>
  (impl_KernelValid_c1 v8 f4).bind fun r9 =>
  bif r9 then
   kr (a6, ())
  else
  kn (sq3, f4, a5, (IntKind.wrap .i64 (a6 + (1 : Int))), ())
 else
 kx ()
noncomputable def slices_IndexFunc_int_l0 (x : (List Int) × DKernel × Int × Int × Unit) : Option (((List Int) × DKernel × Int × Int × Unit) ⊕ ((Unit) ⊕ (Int × Unit))) :=
  slices_IndexFunc_int_l0K x.1 x.2.1 x.2.2.1 x.2.2.2.1 (fun y => some (.inl y)) (fun a => some (.inr (.inl a))) (fun b => some (.inr (.inr b)))
theorem slices_IndexFunc_int_l0_eq {γ : Type} (sq3 : (List Int)) (f4 : DKernel) (a5 : Int) (a6 : Int) (kn : (List Int) × DKernel × Int × Int × Unit → Option γ) (kx : Unit → Option γ) (kr : Int × Unit → Option γ) : slices_IndexFunc_int_l0K sq3 f4 a5 a6 kn kx kr = (slices_IndexFunc_int_l0 (sq3, f4, a5, a6, ())).bind fun r => sum3K r kn kx kr := by
  simp only [slices_IndexFunc_int_l0K, slices_IndexFunc_int_l0, B0, B1, B2, B3, B4, B5, B6, B7, B8, C1, C2, C3, C4, C5]
noncomputable def slices_IndexFunc_intK {γ : Type} (sq1 : (List Int)) (f2 : DKernel) (k : Int → Option γ) : Option γ :=
 (loopF slices_IndexFunc_int_l0 (sq1, f2, (sq1.length : Int), (0 : Int), ())).bind fun q => endK q (fun z10 =>
  k (-1 : Int)) (fun z11 =>
  k z11.1)
noncomputable def slices_IndexFunc_int (sq1 : (List Int)) (f2 : DKernel) : Option (Int) :=
  slices_IndexFunc_intK sq1 f2 some
theorem slices_IndexFunc_int_eq {γ : Type} (sq1 : (List Int)) (f2 : DKernel) (k : Int → Option γ) : slices_IndexFunc_intK sq1 f2 k = (slices_IndexFunc_int sq1 f2).bind k := by
  simp only [slices_IndexFunc_intK, slices_IndexFunc_int, B0, B1, B2, B3, B4, B5, B6, B7, B8, C1, C2, C3, C4, C5]

/-! slices.ContainsFunc(()int,int) -/
noncomputable def slices_ContainsFunc_intK {γ : Type} (sq1 : (List Int)) (f2 : DKernel) (k : Bool → Option γ) : Option γ :=
 (slices_IndexFunc_int sq1 f2).bind fun r3 =>
 k (decide (r3 ≥ (0 : Int)))
noncomputable def slices_ContainsFunc_int (sq1 : (List Int)) (f2 : DKernel) : Option (Bool) :=
  slices_ContainsFunc_intK sq1 f2 some
theorem slices_ContainsFunc_int_eq {γ : Type} (sq1 : (List Int)) (f2 : DKernel) (k : Bool → Option γ) : slices_ContainsFunc_intK sq1 f2 k = (slices_ContainsFunc_int sq1 f2).bind k := by
  simp only [slices_ContainsFunc_intK, slices_ContainsFunc_int, B0, B1, B2, B3, B4, B5, B6, B7, B8, C1, C2, C3, C4, C5]

/-! loop.example/capkernel/impl.KernelValid -/
noncomputable def impl_KernelValid_l0K {γ : Type} (kq6 : DKernel) (a7 : (List DEntry)) (a8 : Int) (a9 : Int) (kn : DKernel × (List DEntry) × Int × Int × Unit → Option γ) (kx : DKernel × Unit → Option γ) (kr : Bool × Unit → Option γ) : Option γ :=
 bif decide (a9 < a8) then
  nnK a9 fun i10 =>
  getK a7 i10 fun v11 =>
  (slices_Contains_int kq6.2.2.1 a9).bind fun r12 =>
  bif (!((r12 == v11.2.2.1))) then
   bif decide (v11.1.2.1 ≥ kq6.2.2.2.1) then
    kr (false, ())
   else
   kn (kq6, a7, a8, (IntKind.wrap .i64 (a9 + (1 : Int))), ())
  else
  kr (false, ())
 else
 kx (kq6, ())
noncomputable def impl_KernelValid_l0 (x : DKernel × (List DEntry) × Int × Int × Unit) : Option ((DKernel × (List DEntry) × Int × Int × Unit) ⊕ ((DKernel × Unit) ⊕ (Bool × Unit))) :=
  impl_KernelValid_l0K x.1 x.2.1 x.2.2.1 x.2.2.2.1 (fun y => some (.inl y)) (fun a => some (.inr (.inl a))) (fun b => some (.inr (.inr b)))
theorem impl_KernelValid_l0_eq {γ : Type} (kq6 : DKernel) (a7 : (List DEntry)) (a8 : Int) (a9 : Int) (kn : DKernel × (List DEntry) × Int × Int × Unit → Option γ) (kx : DKernel × Unit → Option γ) (kr : Bool × Unit → Option γ) : impl_KernelValid_l0K kq6 a7 a8 a9 kn kx kr = (impl_KernelValid_l0 (kq6, a7, a8, a9, ())).bind fun r => sum3K r kn kx kr := by
  simp only [impl_KernelValid_l0K, impl_KernelValid_l0, B0, B1, B2, B3, B4, B5, B6, B7, B8, C1, C2, C3, C4, C5]
noncomputable def impl_KernelValidK {γ : Type} (kq1 : DKernel) (k : Bool → Option γ) : Option γ :=
 (impl_PieceValid (kq1.1.1, kq1.1.2.1, kq1.1.2.2.1, ())).bind fun r2 =>
 bif (!(!r2)) then
  (impl_DerivationValid kq1.2.1).bind fun r3 =>
  bif (!(!r3)) then
   (impl_PlacesValid kq1.2.2.1).bind fun r4 =>
   bif (!(!r4)) then
    (impl_in kq1.2.2.2.1 (0 : Int) (100 : Int)).bind fun r5 =>
    bif (!r5) then
     k false
    else
    (loopF impl_KernelValid_l0 (((kq1.1.1, kq1.1.2.1, kq1.1.2.2.1, ()), kq1.2.1, kq1.2.2.1, kq1.2.2.2.1, ()), kq1.2.1, (kq1.2.1.length : Int), (0 : Int), ())).bind fun q => endK q (fun z13 =>
     (slices_ContainsFunc_int z13.1.2.2.1 z13.1).bind fun r15 =>
     k (!r15)) (fun z14 =>
     k z14.1)
   else
   k false
  else
  k false
 else
 k false
noncomputable def impl_KernelValid (kq1 : DKernel) : Option (Bool) :=
  impl_KernelValidK kq1 some
theorem impl_KernelValid_eq {γ : Type} (kq1 : DKernel) (k : Bool → Option γ) : impl_KernelValidK kq1 k = (impl_KernelValid kq1).bind k := by
  simp only [impl_KernelValidK, impl_KernelValid, B0, B1, B2, B3, B4, B5, B6, B7, B8, C1, C2, C3, C4, C5]

/-! slices.Clone(()loop.example/capkernel/impl.Entry,loop.example/capkernel/impl.Entry) -/
noncomputable def slices_Clone_EntryR {γ : Type} (sq1 : (List DEntry)) (k : (List DEntry) → Option γ) : Option γ :=
 bif sq1.isEmpty then both
  (k [])
  (chk (sq1.length ≤ bigRow) <|
  k sq1)
 else
 chk (sq1.length ≤ bigRow) <|
 k sq1
noncomputable def slices_Clone_EntryK {γ : Type} (sq1 : (List DEntry)) (k : (List DEntry) → Option γ) : Option γ :=
  chk (sq1.length ≤ bigRow) (k sq1)
theorem slices_Clone_Entry_raw {γ : Type} (sq1 : (List DEntry)) (k : (List DEntry) → Option γ) : slices_Clone_EntryR sq1 k = slices_Clone_EntryK sq1 k := by
  cases sq1 with
  | nil => simp [slices_Clone_EntryR, slices_Clone_EntryK, both, chk, bigRow]
  | cons a r => simp [slices_Clone_EntryR, slices_Clone_EntryK, chk]
noncomputable def slices_Clone_Entry (sq1 : (List DEntry)) : Option ((List DEntry)) :=
  slices_Clone_EntryK sq1 some
theorem slices_Clone_Entry_eq {γ : Type} (sq1 : (List DEntry)) (k : (List DEntry) → Option γ) : slices_Clone_EntryK sq1 k = (slices_Clone_Entry sq1).bind k := by
  simp only [slices_Clone_EntryK, slices_Clone_Entry, B0, B1, B2, B3, B4, B5, B6, B7, B8, C1, C2, C3, C4, C5]

/-! slices.Clip(()loop.example/capkernel/impl.Entry,loop.example/capkernel/impl.Entry) -/
noncomputable def slices_Clip_EntryK {γ : Type} (b1 : (List DEntry)) (k : (List DEntry) → Option γ) : Option γ :=
 chk (0 ≤ b1.length ∧ b1.length ≤ b1.length ∧ b1.length ≤ b1.length) <|
 chk (0 = 0 ∧ b1.length = b1.length) <|
 k b1
noncomputable def slices_Clip_Entry (b1 : (List DEntry)) : Option ((List DEntry)) :=
  slices_Clip_EntryK b1 some
theorem slices_Clip_Entry_eq {γ : Type} (b1 : (List DEntry)) (k : (List DEntry) → Option γ) : slices_Clip_EntryK b1 k = (slices_Clip_Entry b1).bind k := by
  simp only [slices_Clip_EntryK, slices_Clip_Entry, B0, B1, B2, B3, B4, B5, B6, B7, B8, C1, C2, C3, C4, C5]

/-! loop.example/capkernel/impl.clone(loop.example/capkernel/impl.Entry) -/
noncomputable def impl_clone_EntryK {γ : Type} (list1 : (List DEntry)) (k : (List DEntry) → Option γ) : Option γ :=
 (slices_Clone_Entry list1).bind fun r2 =>
 (slices_Clip_Entry r2).bind fun r3 =>
 k r3
noncomputable def impl_clone_Entry (list1 : (List DEntry)) : Option ((List DEntry)) :=
  impl_clone_EntryK list1 some
theorem impl_clone_Entry_eq {γ : Type} (list1 : (List DEntry)) (k : (List DEntry) → Option γ) : impl_clone_EntryK list1 k = (impl_clone_Entry list1).bind k := by
  simp only [impl_clone_EntryK, impl_clone_Entry, B0, B1, B2, B3, B4, B5, B6, B7, B8, C1, C2, C3, C4, C5]

/-! slices.Clone(()int,int) -/
noncomputable def slices_Clone_intR {γ : Type} (sq1 : (List Int)) (k : (List Int) → Option γ) : Option γ :=
 bif sq1.isEmpty then both
  (k [])
  (chk (sq1.length ≤ bigRow) <|
  k sq1)
 else
 chk (sq1.length ≤ bigRow) <|
 k sq1
noncomputable def slices_Clone_intK {γ : Type} (sq1 : (List Int)) (k : (List Int) → Option γ) : Option γ :=
  chk (sq1.length ≤ bigRow) (k sq1)
theorem slices_Clone_int_raw {γ : Type} (sq1 : (List Int)) (k : (List Int) → Option γ) : slices_Clone_intR sq1 k = slices_Clone_intK sq1 k := by
  cases sq1 with
  | nil => simp [slices_Clone_intR, slices_Clone_intK, both, chk, bigRow]
  | cons a r => simp [slices_Clone_intR, slices_Clone_intK, chk]
noncomputable def slices_Clone_int (sq1 : (List Int)) : Option ((List Int)) :=
  slices_Clone_intK sq1 some
theorem slices_Clone_int_eq {γ : Type} (sq1 : (List Int)) (k : (List Int) → Option γ) : slices_Clone_intK sq1 k = (slices_Clone_int sq1).bind k := by
  simp only [slices_Clone_intK, slices_Clone_int, B0, B1, B2, B3, B4, B5, B6, B7, B8, C1, C2, C3, C4, C5]

/-! slices.Clip(()int,int) -/
noncomputable def slices_Clip_intK {γ : Type} (b1 : (List Int)) (k : (List Int) → Option γ) : Option γ :=
 chk (0 ≤ b1.length ∧ b1.length ≤ b1.length ∧ b1.length ≤ b1.length) <|
 chk (0 = 0 ∧ b1.length = b1.length) <|
 k b1
noncomputable def slices_Clip_int (b1 : (List Int)) : Option ((List Int)) :=
  slices_Clip_intK b1 some
theorem slices_Clip_int_eq {γ : Type} (b1 : (List Int)) (k : (List Int) → Option γ) : slices_Clip_intK b1 k = (slices_Clip_int b1).bind k := by
  simp only [slices_Clip_intK, slices_Clip_int, B0, B1, B2, B3, B4, B5, B6, B7, B8, C1, C2, C3, C4, C5]

/-! loop.example/capkernel/impl.clone(int) -/
noncomputable def impl_clone_intK {γ : Type} (list1 : (List Int)) (k : (List Int) → Option γ) : Option γ :=
 (slices_Clone_int list1).bind fun r2 =>
 (slices_Clip_int r2).bind fun r3 =>
 k r3
noncomputable def impl_clone_int (list1 : (List Int)) : Option ((List Int)) :=
  impl_clone_intK list1 some
theorem impl_clone_int_eq {γ : Type} (list1 : (List Int)) (k : (List Int) → Option γ) : impl_clone_intK list1 k = (impl_clone_int list1).bind k := by
  simp only [impl_clone_intK, impl_clone_int, B0, B1, B2, B3, B4, B5, B6, B7, B8, C1, C2, C3, C4, C5]

/-! (loop.example/capkernel/impl.Kernel).copyOf -/
noncomputable def impl_Kernel_copyOfK {γ : Type} (kq1 : DKernel) (k : Int × Int × Int × Int × (List DEntry) × (List Int) → Option γ) : Option γ :=
 (impl_clone_Entry kq1.2.1).bind fun r2 =>
 (impl_clone_int kq1.2.2.1).bind fun r3 =>
 k (kq1.1.1, kq1.1.2.1, kq1.1.2.2.1, kq1.2.2.2.1, r2, r3)
noncomputable def impl_Kernel_copyOf (kq1 : DKernel) : Option (Int × Int × Int × Int × (List DEntry) × (List Int)) :=
  impl_Kernel_copyOfK kq1 some
theorem impl_Kernel_copyOf_eq {γ : Type} (kq1 : DKernel) (k : Int × Int × Int × Int × (List DEntry) × (List Int) → Option γ) : impl_Kernel_copyOfK kq1 k = (impl_Kernel_copyOf kq1).bind k := by
  simp only [impl_Kernel_copyOfK, impl_Kernel_copyOf, B0, B1, B2, B3, B4, B5, B6, B7, B8, C1, C2, C3, C4, C5]

/-! (loop.example/capkernel/impl.Kernel).has -/
noncomputable def impl_Kernel_hasK {γ : Type} (kq1 : DKernel) (slot2 : Int) (k : Bool → Option γ) : Option γ :=
 (impl_in slot2 (0 : Int) (IntKind.wrap .i64 ((kq1.2.2.1.length : Int) - (1 : Int)))).bind fun r3 =>
 bif r3 then
  nnK slot2 fun i4 =>
  getK kq1.2.2.1 i4 fun v5 =>
  k (decide (v5 ≥ (0 : Int)))
 else
 k false
noncomputable def impl_Kernel_has (kq1 : DKernel) (slot2 : Int) : Option (Bool) :=
  impl_Kernel_hasK kq1 slot2 some
theorem impl_Kernel_has_eq {γ : Type} (kq1 : DKernel) (slot2 : Int) (k : Bool → Option γ) : impl_Kernel_hasK kq1 slot2 k = (impl_Kernel_has kq1 slot2).bind k := by
  simp only [impl_Kernel_hasK, impl_Kernel_has, B0, B1, B2, B3, B4, B5, B6, B7, B8, C1, C2, C3, C4, C5]

/-! (loop.example/capkernel/impl.Kernel).empty -/
noncomputable def impl_Kernel_emptyK {γ : Type} (kq1 : DKernel) (slot2 : Int) (k : Bool → Option γ) : Option γ :=
 (impl_in slot2 (0 : Int) (IntKind.wrap .i64 ((kq1.2.2.1.length : Int) - (1 : Int)))).bind fun r3 =>
 bif r3 then
  nnK slot2 fun i4 =>
  getK kq1.2.2.1 i4 fun v5 =>
  k (decide (v5 < (0 : Int)))
 else
 k false
noncomputable def impl_Kernel_empty (kq1 : DKernel) (slot2 : Int) : Option (Bool) :=
  impl_Kernel_emptyK kq1 slot2 some
theorem impl_Kernel_empty_eq {γ : Type} (kq1 : DKernel) (slot2 : Int) (k : Bool → Option γ) : impl_Kernel_emptyK kq1 slot2 k = (impl_Kernel_empty kq1 slot2).bind k := by
  simp only [impl_Kernel_emptyK, impl_Kernel_empty, B0, B1, B2, B3, B4, B5, B6, B7, B8, C1, C2, C3, C4, C5]

/-! loop.example/capkernel/impl.alive -/
noncomputable def impl_aliveK {γ : Type} (d1 : (List DEntry)) (n2 : Int) (k : Bool → Option γ) : Option γ :=
 (impl_DerivationValid d1).bind fun r3 =>
 bif r3 then
  (impl_in n2 (0 : Int) (IntKind.wrap .i64 ((d1.length : Int) - (1 : Int)))).bind fun r4 =>
  bif r4 then
   nnK n2 fun i5 =>
   getK d1 i5 fun v6 =>
   k (!v6.2.2.1)
  else
  k false
 else
 k false
noncomputable def impl_alive (d1 : (List DEntry)) (n2 : Int) : Option (Bool) :=
  impl_aliveK d1 n2 some
theorem impl_alive_eq {γ : Type} (d1 : (List DEntry)) (n2 : Int) (k : Bool → Option γ) : impl_aliveK d1 n2 k = (impl_alive d1 n2).bind k := by
  simp only [impl_aliveK, impl_alive, B0, B1, B2, B3, B4, B5, B6, B7, B8, C1, C2, C3, C4, C5]

/-! loop.example/capkernel/impl.MintCap -/
noncomputable def impl_MintCapK {γ : Type} (c1 : DCap) (rights2 : Int) (badge3 : Int) (k : DCap × Bool → Option γ) : Option γ :=
 (impl_CapValid (c1.1, c1.2.1, c1.2.2.1, c1.2.2.2.1, ())).bind fun r4 =>
 bif (!(!r4)) then
  (impl_RightsValid rights2).bind fun r5 =>
  bif (!(!r5)) then
   (impl_in badge3 (0 : Int) (999 : Int)).bind fun r6 =>
   bif (!(!r6)) then
    bif (!(c1.1 == (0 : Int))) then
     bif (!(c1.1 == (1 : Int))) then
      bif (!(c1.1 == (7 : Int))) then
       bif decide (badge3 > (0 : Int)) then
        (impl_badged c1.1).bind fun r7 =>
        bif (!(!r7)) then
         bif decide (c1.2.2.2.1 > (0 : Int)) then
          k (((0 : Int), (0 : Int), (0 : Int), (0 : Int), ()), false)
         else
         bif decide (badge3 > (0 : Int)) then
          k ((c1.1, c1.2.1, (IntKind.wrap .i64 (((BitVec.ofInt 64 c1.2.2.1 &&& BitVec.ofInt 64 rights2).toNat : Int))), badge3, ()), true)
         else
         k ((c1.1, c1.2.1, (IntKind.wrap .i64 (((BitVec.ofInt 64 c1.2.2.1 &&& BitVec.ofInt 64 rights2).toNat : Int))), c1.2.2.2.1, ()), true)
        else
        k (((0 : Int), (0 : Int), (0 : Int), (0 : Int), ()), false)
       else
       bif decide (badge3 > (0 : Int)) then
        k ((c1.1, c1.2.1, (IntKind.wrap .i64 (((BitVec.ofInt 64 c1.2.2.1 &&& BitVec.ofInt 64 rights2).toNat : Int))), badge3, ()), true)
       else
       k ((c1.1, c1.2.1, (IntKind.wrap .i64 (((BitVec.ofInt 64 c1.2.2.1 &&& BitVec.ofInt 64 rights2).toNat : Int))), c1.2.2.2.1, ()), true)
      else
      k (((0 : Int), (0 : Int), (0 : Int), (0 : Int), ()), false)
     else
     k (((0 : Int), (0 : Int), (0 : Int), (0 : Int), ()), false)
    else
    k (((0 : Int), (0 : Int), (0 : Int), (0 : Int), ()), false)
   else
   k (((0 : Int), (0 : Int), (0 : Int), (0 : Int), ()), false)
  else
  k (((0 : Int), (0 : Int), (0 : Int), (0 : Int), ()), false)
 else
 k (((0 : Int), (0 : Int), (0 : Int), (0 : Int), ()), false)
noncomputable def impl_MintCap (c1 : DCap) (rights2 : Int) (badge3 : Int) : Option (DCap × Bool) :=
  impl_MintCapK c1 rights2 badge3 some
theorem impl_MintCap_eq {γ : Type} (c1 : DCap) (rights2 : Int) (badge3 : Int) (k : DCap × Bool → Option γ) : impl_MintCapK c1 rights2 badge3 k = (impl_MintCap c1 rights2 badge3).bind k := by
  simp only [impl_MintCapK, impl_MintCap, B0, B1, B2, B3, B4, B5, B6, B7, B8, C1, C2, C3, C4, C5]

/-! loop.example/capkernel/impl.DeriveCap -/
noncomputable def impl_DeriveCapK {γ : Type} (d1 : (List DEntry)) (n2 : Int) (rights3 : Int) (badge4 : Int) (k : Int × Bool × (List DEntry) → Option γ) : Option γ :=
 (impl_alive d1 n2).bind fun r5 =>
 bif (!r5) then
  k ((-1 : Int), false, [])
 else
 nnK n2 fun i6 =>
 getK d1 i6 fun v7 =>
 (impl_MintCap v7.1 rights3 badge4).bind fun r8 =>
 bif (!(!r8.2)) then
  bif ((d1.length : Int) == (30 : Int)) then
   (impl_clone_Entry d1).bind fun r9 =>
   k ((-1 : Int), false, r9)
  else
  (impl_clone_Entry d1).bind fun r10 =>
  chk ((r10.length + 1) ≤ bigRow) <|
  (impl_clone_Entry (r10 ++ [((r8.1.1, r8.1.2.1, r8.1.2.2.1, r8.1.2.2.2.1, ()), n2, false, ())])).bind fun r11 =>
  k ((d1.length : Int), true, r11)
 else
 (impl_clone_Entry d1).bind fun r12 =>
 k ((-1 : Int), false, r12)
noncomputable def impl_DeriveCap (d1 : (List DEntry)) (n2 : Int) (rights3 : Int) (badge4 : Int) : Option (Int × Bool × (List DEntry)) :=
  impl_DeriveCapK d1 n2 rights3 badge4 some
theorem impl_DeriveCap_eq {γ : Type} (d1 : (List DEntry)) (n2 : Int) (rights3 : Int) (badge4 : Int) (k : Int × Bool × (List DEntry) → Option γ) : impl_DeriveCapK d1 n2 rights3 badge4 k = (impl_DeriveCap d1 n2 rights3 badge4).bind k := by
  simp only [impl_DeriveCapK, impl_DeriveCap, B0, B1, B2, B3, B4, B5, B6, B7, B8, C1, C2, C3, C4, C5]

/-! loop.example/capkernel/impl.SysMint -/
noncomputable def impl_SysMintK {γ : Type} (kq1 : DKernel) (fromq2 : Int) (toq3 : Int) (rights4 : Int) (badge5 : Int) (k : Int × Int × Int × Int × Int × (List DEntry) × (List Int) → Option γ) : Option γ :=
 (impl_KernelValid ((kq1.1.1, kq1.1.2.1, kq1.1.2.2.1, ()), kq1.2.1, kq1.2.2.1, kq1.2.2.2.1, ())).bind fun r6 =>
 bif (!r6) then
  k ((0 : Int), (0 : Int), (0 : Int), (0 : Int), (3 : Int), [], [])
 else
 (impl_Kernel_copyOf ((kq1.1.1, kq1.1.2.1, kq1.1.2.2.1, ()), kq1.2.1, kq1.2.2.1, kq1.2.2.2.1, ())).bind fun r7 =>
 (impl_Kernel_has ((kq1.1.1, kq1.1.2.1, kq1.1.2.2.1, ()), kq1.2.1, kq1.2.2.1, kq1.2.2.2.1, ()) fromq2).bind fun r8 =>
 bif (!(!r8)) then
  (impl_Kernel_empty ((kq1.1.1, kq1.1.2.1, kq1.1.2.2.1, ()), kq1.2.1, kq1.2.2.1, kq1.2.2.2.1, ()) toq3).bind fun r9 =>
  bif (!r9) then
   k (r7.1, r7.2.1, r7.2.2.1, r7.2.2.2.1, (1 : Int), r7.2.2.2.2.1, r7.2.2.2.2.2)
  else
  bif ((kq1.2.1.length : Int) == (30 : Int)) then
   k (r7.1, r7.2.1, r7.2.2.1, r7.2.2.2.1, (2 : Int), r7.2.2.2.2.1, r7.2.2.2.2.2)
  else
  nnK fromq2 fun i10 =>
  getK kq1.2.2.1 i10 fun v11 =>
  (impl_DeriveCap kq1.2.1 v11 rights4 badge5).bind fun r12 =>
  bif (!r12.2.1) then
   k (r7.1, r7.2.1, r7.2.2.1, r7.2.2.2.1, (3 : Int), r7.2.2.2.2.1, r7.2.2.2.2.2)
  else
  nnK toq3 fun i13 =>
  chk (i13 < r7.2.2.2.2.2.length) <|
  getK r7.2.2.2.2.2 i13 fun y14 =>
  k (r7.1, r7.2.1, r7.2.2.1, r7.2.2.2.1, (0 : Int), r12.2.2, (r7.2.2.2.2.2.set i13 r12.1))
 else
 k (r7.1, r7.2.1, r7.2.2.1, r7.2.2.2.1, (1 : Int), r7.2.2.2.2.1, r7.2.2.2.2.2)
noncomputable def impl_SysMint (kq1 : DKernel) (fromq2 : Int) (toq3 : Int) (rights4 : Int) (badge5 : Int) : Option (Int × Int × Int × Int × Int × (List DEntry) × (List Int)) :=
  impl_SysMintK kq1 fromq2 toq3 rights4 badge5 some
theorem impl_SysMint_eq {γ : Type} (kq1 : DKernel) (fromq2 : Int) (toq3 : Int) (rights4 : Int) (badge5 : Int) (k : Int × Int × Int × Int × Int × (List DEntry) × (List Int) → Option γ) : impl_SysMintK kq1 fromq2 toq3 rights4 badge5 k = (impl_SysMint kq1 fromq2 toq3 rights4 badge5).bind k := by
  simp only [impl_SysMintK, impl_SysMint, B0, B1, B2, B3, B4, B5, B6, B7, B8, C1, C2, C3, C4, C5]

/-! loop.example/capkernel/laws.sameTree -/
noncomputable def laws_sameTree_l0K {γ : Type} (a3 : (List DEntry)) (b4 : (List DEntry)) (kq5 : Int) (kn : (List DEntry) × (List DEntry) × Int × Unit → Option γ) (kx : Unit → Option γ) (kr : Bool × Unit → Option γ) : Option γ :=
 bif decide (kq5 < (a3.length : Int)) then
  nnK kq5 fun i6 =>
  getK a3 i6 fun v7 =>
  nnK kq5 fun i8 =>
  getK b4 i8 fun v9 =>
  bif (!((decide (v7.1.1 = v9.1.1) && (decide (v7.1.2.1 = v9.1.2.1) && (decide (v7.1.2.2.1 = v9.1.2.2.1) && (decide (v7.1.2.2.2.1 = v9.1.2.2.2.1) && true)))) && (decide (v7.2.1 = v9.2.1) && ((v7.2.2.1 == v9.2.2.1) && true)))) then
   kr (false, ())
  else
  kn (a3, b4, (IntKind.wrap .i64 (kq5 + (1 : Int))), ())
 else
 kx ()
noncomputable def laws_sameTree_l0 (x : (List DEntry) × (List DEntry) × Int × Unit) : Option (((List DEntry) × (List DEntry) × Int × Unit) ⊕ ((Unit) ⊕ (Bool × Unit))) :=
  laws_sameTree_l0K x.1 x.2.1 x.2.2.1 (fun y => some (.inl y)) (fun a => some (.inr (.inl a))) (fun b => some (.inr (.inr b)))
theorem laws_sameTree_l0_eq {γ : Type} (a3 : (List DEntry)) (b4 : (List DEntry)) (kq5 : Int) (kn : (List DEntry) × (List DEntry) × Int × Unit → Option γ) (kx : Unit → Option γ) (kr : Bool × Unit → Option γ) : laws_sameTree_l0K a3 b4 kq5 kn kx kr = (laws_sameTree_l0 (a3, b4, kq5, ())).bind fun r => sum3K r kn kx kr := by
  simp only [laws_sameTree_l0K, laws_sameTree_l0, B0, B1, B2, B3, B4, B5, B6, B7, B8, C1, C2, C3, C4, C5]
noncomputable def laws_sameTreeK {γ : Type} (a1 : (List DEntry)) (b2 : (List DEntry)) (k : Bool → Option γ) : Option γ :=
 bif ((a1.length : Int) != (b2.length : Int)) then
  k false
 else
 (loopF laws_sameTree_l0 (a1, b2, (0 : Int), ())).bind fun q => endK q (fun z10 =>
  k true) (fun z11 =>
  k z11.1)
noncomputable def laws_sameTree (a1 : (List DEntry)) (b2 : (List DEntry)) : Option (Bool) :=
  laws_sameTreeK a1 b2 some
theorem laws_sameTree_eq {γ : Type} (a1 : (List DEntry)) (b2 : (List DEntry)) (k : Bool → Option γ) : laws_sameTreeK a1 b2 k = (laws_sameTree a1 b2).bind k := by
  simp only [laws_sameTreeK, laws_sameTree, B0, B1, B2, B3, B4, B5, B6, B7, B8, C1, C2, C3, C4, C5]

/-! loop.example/capkernel/laws.sameInts -/
noncomputable def laws_sameInts_l0K {γ : Type} (a3 : (List Int)) (b4 : (List Int)) (i5 : Int) (kn : (List Int) × (List Int) × Int × Unit → Option γ) (kx : Unit → Option γ) (kr : Bool × Unit → Option γ) : Option γ :=
 bif decide (i5 < (a3.length : Int)) then
  nnK i5 fun i6 =>
  getK a3 i6 fun v7 =>
  nnK i5 fun i8 =>
  getK b4 i8 fun v9 =>
  bif (v7 != v9) then
   kr (false, ())
  else
  kn (a3, b4, (IntKind.wrap .i64 (i5 + (1 : Int))), ())
 else
 kx ()
noncomputable def laws_sameInts_l0 (x : (List Int) × (List Int) × Int × Unit) : Option (((List Int) × (List Int) × Int × Unit) ⊕ ((Unit) ⊕ (Bool × Unit))) :=
  laws_sameInts_l0K x.1 x.2.1 x.2.2.1 (fun y => some (.inl y)) (fun a => some (.inr (.inl a))) (fun b => some (.inr (.inr b)))
theorem laws_sameInts_l0_eq {γ : Type} (a3 : (List Int)) (b4 : (List Int)) (i5 : Int) (kn : (List Int) × (List Int) × Int × Unit → Option γ) (kx : Unit → Option γ) (kr : Bool × Unit → Option γ) : laws_sameInts_l0K a3 b4 i5 kn kx kr = (laws_sameInts_l0 (a3, b4, i5, ())).bind fun r => sum3K r kn kx kr := by
  simp only [laws_sameInts_l0K, laws_sameInts_l0, B0, B1, B2, B3, B4, B5, B6, B7, B8, C1, C2, C3, C4, C5]
noncomputable def laws_sameIntsK {γ : Type} (a1 : (List Int)) (b2 : (List Int)) (k : Bool → Option γ) : Option γ :=
 bif ((a1.length : Int) != (b2.length : Int)) then
  k false
 else
 (loopF laws_sameInts_l0 (a1, b2, (0 : Int), ())).bind fun q => endK q (fun z10 =>
  k true) (fun z11 =>
  k z11.1)
noncomputable def laws_sameInts (a1 : (List Int)) (b2 : (List Int)) : Option (Bool) :=
  laws_sameIntsK a1 b2 some
theorem laws_sameInts_eq {γ : Type} (a1 : (List Int)) (b2 : (List Int)) (k : Bool → Option γ) : laws_sameIntsK a1 b2 k = (laws_sameInts a1 b2).bind k := by
  simp only [laws_sameIntsK, laws_sameInts, B0, B1, B2, B3, B4, B5, B6, B7, B8, C1, C2, C3, C4, C5]

/-! loop.example/capkernel/laws.sameKernel -/
noncomputable def laws_sameKernelK {γ : Type} (a1 : DKernel) (b2 : DKernel) (k : Bool → Option γ) : Option γ :=
 bif ((decide (a1.1.1 = b2.1.1) && (decide (a1.1.2.1 = b2.1.2.1) && (decide (a1.1.2.2.1 = b2.1.2.2.1) && true)))) then
  (laws_sameTree a1.2.1 b2.2.1).bind fun r3 =>
  bif r3 then
   (laws_sameInts a1.2.2.1 b2.2.2.1).bind fun r4 =>
   bif r4 then
    k (a1.2.2.2.1 == b2.2.2.2.1)
   else
   k false
  else
  k false
 else
 k false
noncomputable def laws_sameKernel (a1 : DKernel) (b2 : DKernel) : Option (Bool) :=
  laws_sameKernelK a1 b2 some
theorem laws_sameKernel_eq {γ : Type} (a1 : DKernel) (b2 : DKernel) (k : Bool → Option γ) : laws_sameKernelK a1 b2 k = (laws_sameKernel a1 b2).bind k := by
  simp only [laws_sameKernelK, laws_sameKernel, B0, B1, B2, B3, B4, B5, B6, B7, B8, C1, C2, C3, C4, C5]

/-! loop.example/capkernel/laws.alive -/
noncomputable def laws_aliveK {γ : Type}  (k : Bool → Option γ) : Option γ :=
 k true
noncomputable def laws_alive  : Option (Bool) :=
  laws_aliveK  some
theorem laws_alive_eq {γ : Type}  (k : Bool → Option γ) : laws_aliveK  k = (laws_alive ).bind k := by
  simp only [laws_aliveK, laws_alive, B0, B1, B2, B3, B4, B5, B6, B7, B8, C1, C2, C3, C4, C5]

/-! loop.example/capkernel/impl.StrongestLeft -/
noncomputable def impl_StrongestLeft_l0K {γ : Type} (kind5 : Int) (object6 : Int) (rights7 : Int) (a8 : (List DEntry)) (a9 : Int) (a10 : Int) (kn : Int × Int × Int × (List DEntry) × Int × Int × Unit → Option γ) (kx : Int × Unit → Option γ) : Option γ :=
 bif decide (a10 < a9) then
  nnK a10 fun i11 =>
  getK a8 i11 fun v12 =>
  bif (!v12.2.2.1) then
   bif (v12.1.1 == kind5) then
    bif (v12.1.2.1 == object6) then
     kn (kind5, object6, (IntKind.wrap .i64 (((BitVec.ofInt 64 rights7 ||| BitVec.ofInt 64 v12.1.2.2.1).toNat : Int))), a8, a9, (IntKind.wrap .i64 (a10 + (1 : Int))), ())
    else
    kn (kind5, object6, rights7, a8, a9, (IntKind.wrap .i64 (a10 + (1 : Int))), ())
   else
   kn (kind5, object6, rights7, a8, a9, (IntKind.wrap .i64 (a10 + (1 : Int))), ())
  else
  kn (kind5, object6, rights7, a8, a9, (IntKind.wrap .i64 (a10 + (1 : Int))), ())
 else
 kx (rights7, ())
noncomputable def impl_StrongestLeft_l0 (x : Int × Int × Int × (List DEntry) × Int × Int × Unit) : Option ((Int × Int × Int × (List DEntry) × Int × Int × Unit) ⊕ (Int × Unit)) :=
  impl_StrongestLeft_l0K x.1 x.2.1 x.2.2.1 x.2.2.2.1 x.2.2.2.2.1 x.2.2.2.2.2.1 (fun y => some (.inl y)) (fun a => some (.inr a))
theorem impl_StrongestLeft_l0_eq {γ : Type} (kind5 : Int) (object6 : Int) (rights7 : Int) (a8 : (List DEntry)) (a9 : Int) (a10 : Int) (kn : Int × Int × Int × (List DEntry) × Int × Int × Unit → Option γ) (kx : Int × Unit → Option γ) : impl_StrongestLeft_l0K kind5 object6 rights7 a8 a9 a10 kn kx = (impl_StrongestLeft_l0 (kind5, object6, rights7, a8, a9, a10, ())).bind fun r => sum2K r kn kx := by
  simp only [impl_StrongestLeft_l0K, impl_StrongestLeft_l0, B0, B1, B2, B3, B4, B5, B6, B7, B8, C1, C2, C3, C4, C5]
noncomputable def impl_StrongestLeftK {γ : Type} (d1 : (List DEntry)) (kind2 : Int) (object3 : Int) (k : Int → Option γ) : Option γ :=
 (impl_DerivationValid d1).bind fun r4 =>
 bif (!r4) then
  k (0 : Int)
 else
 (loopF impl_StrongestLeft_l0 (kind2, object3, (0 : Int), d1, (d1.length : Int), (0 : Int), ())).bind fun z13 =>
 k z13.1
noncomputable def impl_StrongestLeft (d1 : (List DEntry)) (kind2 : Int) (object3 : Int) : Option (Int) :=
  impl_StrongestLeftK d1 kind2 object3 some
theorem impl_StrongestLeft_eq {γ : Type} (d1 : (List DEntry)) (kind2 : Int) (object3 : Int) (k : Int → Option γ) : impl_StrongestLeftK d1 kind2 object3 k = (impl_StrongestLeft d1 kind2 object3).bind k := by
  simp only [impl_StrongestLeftK, impl_StrongestLeft, B0, B1, B2, B3, B4, B5, B6, B7, B8, C1, C2, C3, C4, C5]

/-! loop.example/capkernel/laws.FnSysMint -/
noncomputable def laws_FnSysMint_l0K {γ : Type} (fromq10 : Int) (toq11 : Int) (n12 : Int) (j13 : Int) (b14 : Int) (b15 : Int) (b16 : Int) (b17 : (List DEntry)) (b18 : (List Int)) (b19 : Int) (b20 : Int) (b21 : Int) (b22 : Int) (b23 : (List DEntry)) (b24 : (List Int)) (b25 : Int) (kn : Int × Int × Int × Int × Int × Int × Int × (List DEntry) × (List Int) × Int × Int × Int × Int × (List DEntry) × (List Int) × Int × Unit → Option γ) (kx : Int × Int × Int × Int × Int × Int × (List DEntry) × (List Int) × Int × Int × Int × Int × (List DEntry) × (List Int) × Int × Unit → Option γ) (kr : Bool × Unit → Option γ) : Option γ :=
 bif decide (j13 < n12) then
  nnK j13 fun i26 =>
  getK b17 i26 fun v27 =>
  (impl_StrongestLeft b23 v27.1.1 v27.1.2.1).bind fun r28 =>
  (impl_StrongestLeft b17 v27.1.1 v27.1.2.1).bind fun r29 =>
  bif (r28 != r29) then
   kr (false, ())
  else
  kn (fromq10, toq11, n12, (IntKind.wrap .i64 (j13 + (1 : Int))), b14, b15, b16, b17, b18, b19, b20, b21, b22, b23, b24, b25, ())
 else
 kx (fromq10, toq11, n12, b14, b15, b16, b17, b18, b19, b20, b21, b22, b23, b24, b25, ())
noncomputable def laws_FnSysMint_l0 (x : Int × Int × Int × Int × Int × Int × Int × (List DEntry) × (List Int) × Int × Int × Int × Int × (List DEntry) × (List Int) × Int × Unit) : Option ((Int × Int × Int × Int × Int × Int × Int × (List DEntry) × (List Int) × Int × Int × Int × Int × (List DEntry) × (List Int) × Int × Unit) ⊕ ((Int × Int × Int × Int × Int × Int × (List DEntry) × (List Int) × Int × Int × Int × Int × (List DEntry) × (List Int) × Int × Unit) ⊕ (Bool × Unit))) :=
  laws_FnSysMint_l0K x.1 x.2.1 x.2.2.1 x.2.2.2.1 x.2.2.2.2.1 x.2.2.2.2.2.1 x.2.2.2.2.2.2.1 x.2.2.2.2.2.2.2.1 x.2.2.2.2.2.2.2.2.1 x.2.2.2.2.2.2.2.2.2.1 x.2.2.2.2.2.2.2.2.2.2.1 x.2.2.2.2.2.2.2.2.2.2.2.1 x.2.2.2.2.2.2.2.2.2.2.2.2.1 x.2.2.2.2.2.2.2.2.2.2.2.2.2.1 x.2.2.2.2.2.2.2.2.2.2.2.2.2.2.1 x.2.2.2.2.2.2.2.2.2.2.2.2.2.2.2.1 (fun y => some (.inl y)) (fun a => some (.inr (.inl a))) (fun b => some (.inr (.inr b)))
theorem laws_FnSysMint_l0_eq {γ : Type} (fromq10 : Int) (toq11 : Int) (n12 : Int) (j13 : Int) (b14 : Int) (b15 : Int) (b16 : Int) (b17 : (List DEntry)) (b18 : (List Int)) (b19 : Int) (b20 : Int) (b21 : Int) (b22 : Int) (b23 : (List DEntry)) (b24 : (List Int)) (b25 : Int) (kn : Int × Int × Int × Int × Int × Int × Int × (List DEntry) × (List Int) × Int × Int × Int × Int × (List DEntry) × (List Int) × Int × Unit → Option γ) (kx : Int × Int × Int × Int × Int × Int × (List DEntry) × (List Int) × Int × Int × Int × Int × (List DEntry) × (List Int) × Int × Unit → Option γ) (kr : Bool × Unit → Option γ) : laws_FnSysMint_l0K fromq10 toq11 n12 j13 b14 b15 b16 b17 b18 b19 b20 b21 b22 b23 b24 b25 kn kx kr = (laws_FnSysMint_l0 (fromq10, toq11, n12, j13, b14, b15, b16, b17, b18, b19, b20, b21, b22, b23, b24, b25, ())).bind fun r => sum3K r kn kx kr := by
  simp only [laws_FnSysMint_l0K, laws_FnSysMint_l0, B0, B1, B2, B3, B4, B5, B6, B7, B8, C1, C2, C3, C4, C5]
noncomputable def laws_FnSysMintK {γ : Type} (code1 : (List Int)) (k : Bool → Option γ) : Option γ :=
 bif decide ((code1.length : Int) > (1048576 : Int)) then
  k true
 else
 (spec_DrawSysMint code1).bind fun r2 =>
 (impl_SysMint ((r2.1, r2.2.1, r2.2.2.1, ()), r2.2.2.2.2.2.2.2.2.1, r2.2.2.2.2.2.2.2.2.2, r2.2.2.2.1, ()) r2.2.2.2.2.1 r2.2.2.2.2.2.1 r2.2.2.2.2.2.2.1 r2.2.2.2.2.2.2.2.1).bind fun r3 =>
 (spec_SysMint ((r2.1, r2.2.1, r2.2.2.1, ()), r2.2.2.2.2.2.2.2.2.1, r2.2.2.2.2.2.2.2.2.2, r2.2.2.2.1, ()) r2.2.2.2.2.1 r2.2.2.2.2.2.1 r2.2.2.2.2.2.2.1 r2.2.2.2.2.2.2.2.1).bind fun r4 =>
 (laws_sameKernel ((r3.1, r3.2.1, r3.2.2.1, ()), r3.2.2.2.2.2.1, r3.2.2.2.2.2.2, r3.2.2.2.1, ()) ((r4.1, r4.2.1, r4.2.2.1, ()), r4.2.2.2.2.2.1, r4.2.2.2.2.2.2, r4.2.2.2.1, ())).bind fun r5 =>
 bif (!(!r5)) then
  bif (r3.2.2.2.2.1 != r4.2.2.2.2.1) then
   k false
  else
  bif (r3.2.2.2.2.1 != (0 : Int)) then
   (laws_sameKernel ((r3.1, r3.2.1, r3.2.2.1, ()), r3.2.2.2.2.2.1, r3.2.2.2.2.2.2, r3.2.2.2.1, ()) ((r2.1, r2.2.1, r2.2.2.1, ()), r2.2.2.2.2.2.2.2.2.1, r2.2.2.2.2.2.2.2.2.2, r2.2.2.2.1, ())).bind fun r6 =>
   bif (!r6) then
    (spec_KernelValid ((r2.1, r2.2.1, r2.2.2.1, ()), r2.2.2.2.2.2.2.2.2.1, r2.2.2.2.2.2.2.2.2.2, r2.2.2.2.1, ())).bind fun r7 =>
    bif (!r7) then
     (laws_alive).bind fun r8 =>
     k r8
    else
    k false
   else
   (laws_alive).bind fun r9 =>
   k r9
  else
  (loopF laws_FnSysMint_l0 (r2.2.2.2.2.1, r2.2.2.2.2.2.1, (r2.2.2.2.2.2.2.2.2.1.length : Int), (0 : Int), r2.1, r2.2.1, r2.2.2.1, r2.2.2.2.2.2.2.2.2.1, r2.2.2.2.2.2.2.2.2.2, r2.2.2.2.1, r3.1, r3.2.1, r3.2.2.1, r3.2.2.2.2.2.1, r3.2.2.2.2.2.2, r3.2.2.2.1, ())).bind fun q => endK q (fun z30 =>
   (impl_KernelValid ((z30.2.2.2.2.2.2.2.2.2.1, z30.2.2.2.2.2.2.2.2.2.2.1, z30.2.2.2.2.2.2.2.2.2.2.2.1, ()), z30.2.2.2.2.2.2.2.2.2.2.2.2.1, z30.2.2.2.2.2.2.2.2.2.2.2.2.2.1, z30.2.2.2.2.2.2.2.2.2.2.2.2.2.2.1, ())).bind fun r32 =>
   bif r32 then
    nnK z30.2.1 fun i33 =>
    getK z30.2.2.2.2.2.2.2.2.2.2.2.2.2.1 i33 fun v34 =>
    bif (v34 == z30.2.2.1) then
     nnK z30.1 fun i35 =>
     getK z30.2.2.2.2.2.2.2.2.2.2.2.2.2.1 i35 fun v36 =>
     nnK z30.1 fun i37 =>
     getK z30.2.2.2.2.2.2.2.1 i37 fun v38 =>
     bif (v36 == v38) then
      nnK z30.2.2.1 fun i39 =>
      getK z30.2.2.2.2.2.2.2.2.2.2.2.2.1 i39 fun v40 =>
      nnK z30.1 fun i41 =>
      getK z30.2.2.2.2.2.2.2.1 i41 fun v42 =>
      nnK v42 fun i43 =>
      getK z30.2.2.2.2.2.2.1 i43 fun v44 =>
      (impl_CapWithin v40.1 v44.1).bind fun r45 =>
      k r45
     else
     k false
    else
    k false
   else
   k false) (fun z31 =>
   k z31.1)
 else
 k false
noncomputable def laws_FnSysMint (code1 : (List Int)) : Option (Bool) :=
  laws_FnSysMintK code1 some
theorem laws_FnSysMint_eq {γ : Type} (code1 : (List Int)) (k : Bool → Option γ) : laws_FnSysMintK code1 k = (laws_FnSysMint code1).bind k := by
  simp only [laws_FnSysMintK, laws_FnSysMint, B0, B1, B2, B3, B4, B5, B6, B7, B8, C1, C2, C3, C4, C5]

/-! loop.example/capkernel/spec.DrawSysRetype -/
noncomputable def spec_DrawSysRetypeK {γ : Type} (code1 : (List Int)) (k : Int × Int × Int × Int × Int × Int × (List DEntry) × (List Int) → Option γ) : Option γ :=
 (spec_l20Open code1).bind fun r2 =>
 (spec_l20Kernel (14 : Int) r2).bind fun r3 =>
 (spec_l20Rd_pick (8 : Int) r3.2.2.2.2.1).bind fun r4 =>
 (spec_l20Site r3.1 r3.2.1 r3.2.2.1 r3.2.2.2.1 r4.2 r3.2.2.2.2.2.1 r3.2.2.2.2.2.2).bind fun r5 =>
 k (r3.1, r3.2.1, r3.2.2.1, r3.2.2.2.1, (IntKind.wrap .i64 ((1 : Int) + r4.1)), r5.1, r5.2.2.1, r5.2.2.2)
noncomputable def spec_DrawSysRetype (code1 : (List Int)) : Option (Int × Int × Int × Int × Int × Int × (List DEntry) × (List Int)) :=
  spec_DrawSysRetypeK code1 some
theorem spec_DrawSysRetype_eq {γ : Type} (code1 : (List Int)) (k : Int × Int × Int × Int × Int × Int × (List DEntry) × (List Int) → Option γ) : spec_DrawSysRetypeK code1 k = (spec_DrawSysRetype code1).bind k := by
  simp only [spec_DrawSysRetypeK, spec_DrawSysRetype, B0, B1, B2, B3, B4, B5, B6, B7, B8, C1, C2, C3, C4, C5]

/-! loop.example/capkernel/impl.ObjectBits -/
noncomputable def impl_ObjectBitsK {γ : Type} (kind1 : Int) (k : Int → Option γ) : Option γ :=
 bif (kind1 == (2 : Int)) then
  k (6 : Int)
 else
 bif (kind1 == (3 : Int)) then
  k (9 : Int)
 else
 bif (kind1 == (4 : Int)) then
  bif (kind1 == (4 : Int)) then
   k (4 : Int)
  else
  bif (kind1 == (6 : Int)) then
   k (8 : Int)
  else
  k (-1 : Int)
 else
 bif (kind1 == (5 : Int)) then
  bif (kind1 == (5 : Int)) then
   k (4 : Int)
  else
  bif (kind1 == (6 : Int)) then
   k (8 : Int)
  else
  k (-1 : Int)
 else
 bif (kind1 == (7 : Int)) then
  k (4 : Int)
 else
 bif (kind1 == (6 : Int)) then
  k (8 : Int)
 else
 k (-1 : Int)
noncomputable def impl_ObjectBits (kind1 : Int) : Option (Int) :=
  impl_ObjectBitsK kind1 some
theorem impl_ObjectBits_eq {γ : Type} (kind1 : Int) (k : Int → Option γ) : impl_ObjectBitsK kind1 k = (impl_ObjectBits kind1).bind k := by
  simp only [impl_ObjectBitsK, impl_ObjectBits, B0, B1, B2, B3, B4, B5, B6, B7, B8, C1, C2, C3, C4, C5]

/-! (loop.example/capkernel/impl.Piece).room -/
noncomputable def impl_Piece_roomK {γ : Type} (p1 : DPiece) (bits2 : Int) (k : Int × Int → Option γ) : Option γ :=
 chk (0 ≤ bits2) <|
 chk ((IntKind.wrap .i64 ((1 : Int) * 2 ^ (min (bits2).toNat 64))) ≠ 0) <|
 chk (0 ≤ p1.2.1) <|
 chk ((IntKind.wrap .i64 ((1 : Int) * 2 ^ (min (bits2).toNat 64))) ≠ 0) <|
 k ((IntKind.wrap .i64 ((IntKind.wrap .i64 (Int.tdiv (IntKind.wrap .i64 ((IntKind.wrap .i64 ((IntKind.wrap .i64 (p1.1 + p1.2.2.1)) + (IntKind.wrap .i64 ((1 : Int) * 2 ^ (min (bits2).toNat 64))))) - (1 : Int))) (IntKind.wrap .i64 ((1 : Int) * 2 ^ (min (bits2).toNat 64))))) * (IntKind.wrap .i64 ((1 : Int) * 2 ^ (min (bits2).toNat 64))))), (IntKind.wrap .i64 (Int.tdiv (if (IntKind.wrap .i64 ((IntKind.wrap .i64 (p1.1 + (IntKind.wrap .i64 ((1 : Int) * 2 ^ (min (p1.2.1).toNat 64))))) - (IntKind.wrap .i64 ((IntKind.wrap .i64 (Int.tdiv (IntKind.wrap .i64 ((IntKind.wrap .i64 ((IntKind.wrap .i64 (p1.1 + p1.2.2.1)) + (IntKind.wrap .i64 ((1 : Int) * 2 ^ (min (bits2).toNat 64))))) - (1 : Int))) (IntKind.wrap .i64 ((1 : Int) * 2 ^ (min (bits2).toNat 64))))) * (IntKind.wrap .i64 ((1 : Int) * 2 ^ (min (bits2).toNat 64))))))) > (0 : Int) then (IntKind.wrap .i64 ((IntKind.wrap .i64 (p1.1 + (IntKind.wrap .i64 ((1 : Int) * 2 ^ (min (p1.2.1).toNat 64))))) - (IntKind.wrap .i64 ((IntKind.wrap .i64 (Int.tdiv (IntKind.wrap .i64 ((IntKind.wrap .i64 ((IntKind.wrap .i64 (p1.1 + p1.2.2.1)) + (IntKind.wrap .i64 ((1 : Int) * 2 ^ (min (bits2).toNat 64))))) - (1 : Int))) (IntKind.wrap .i64 ((1 : Int) * 2 ^ (min (bits2).toNat 64))))) * (IntKind.wrap .i64 ((1 : Int) * 2 ^ (min (bits2).toNat 64))))))) else (0 : Int)) (IntKind.wrap .i64 ((1 : Int) * 2 ^ (min (bits2).toNat 64))))))
noncomputable def impl_Piece_room (p1 : DPiece) (bits2 : Int) : Option (Int × Int) :=
  impl_Piece_roomK p1 bits2 some
theorem impl_Piece_room_eq {γ : Type} (p1 : DPiece) (bits2 : Int) (k : Int × Int → Option γ) : impl_Piece_roomK p1 bits2 k = (impl_Piece_room p1 bits2).bind k := by
  simp only [impl_Piece_roomK, impl_Piece_room, B0, B1, B2, B3, B4, B5, B6, B7, B8, C1, C2, C3, C4, C5]

/-! loop.example/capkernel/impl.RetypePiece -/
noncomputable def impl_RetypePiece_l0K {γ : Type} (bits9 : Int) (many10 : Int) (first11 : Int) (a12 : Int) (a13 : Int) (b14 : DPiece) (b15 : DPiece) (b16 : (List Int)) (kn : Int × Int × Int × Int × Int × DPiece × DPiece × (List Int) × Unit → Option γ) (kx : Int × Int × Int × DPiece × DPiece × (List Int) × Unit → Option γ) : Option γ :=
 bif decide (a13 < a12) then
  chk (0 ≤ bits9) <|
  nnK a13 fun i17 =>
  chk (i17 < b16.length) <|
  getK b16 i17 fun y18 =>
  kn (bits9, many10, first11, a12, (IntKind.wrap .i64 (a13 + (1 : Int))), b14, b15, (b16.set i17 (IntKind.wrap .i64 (first11 + (IntKind.wrap .i64 (a13 * 2 ^ (min (bits9).toNat 64)))))), ())
 else
 kx (bits9, many10, first11, b14, b15, b16, ())
noncomputable def impl_RetypePiece_l0 (x : Int × Int × Int × Int × Int × DPiece × DPiece × (List Int) × Unit) : Option ((Int × Int × Int × Int × Int × DPiece × DPiece × (List Int) × Unit) ⊕ (Int × Int × Int × DPiece × DPiece × (List Int) × Unit)) :=
  impl_RetypePiece_l0K x.1 x.2.1 x.2.2.1 x.2.2.2.1 x.2.2.2.2.1 x.2.2.2.2.2.1 x.2.2.2.2.2.2.1 x.2.2.2.2.2.2.2.1 (fun y => some (.inl y)) (fun a => some (.inr a))
theorem impl_RetypePiece_l0_eq {γ : Type} (bits9 : Int) (many10 : Int) (first11 : Int) (a12 : Int) (a13 : Int) (b14 : DPiece) (b15 : DPiece) (b16 : (List Int)) (kn : Int × Int × Int × Int × Int × DPiece × DPiece × (List Int) × Unit → Option γ) (kx : Int × Int × Int × DPiece × DPiece × (List Int) × Unit → Option γ) : impl_RetypePiece_l0K bits9 many10 first11 a12 a13 b14 b15 b16 kn kx = (impl_RetypePiece_l0 (bits9, many10, first11, a12, a13, b14, b15, b16, ())).bind fun r => sum2K r kn kx := by
  simp only [impl_RetypePiece_l0K, impl_RetypePiece_l0, B0, B1, B2, B3, B4, B5, B6, B7, B8, C1, C2, C3, C4, C5]
noncomputable def impl_RetypePieceK {γ : Type} (p1 : DPiece) (bits2 : Int) (many3 : Int) (k : DPiece × Bool × (List Int) → Option γ) : Option γ :=
 (impl_PieceValid (p1.1, p1.2.1, p1.2.2.1, ())).bind fun r4 =>
 bif (!(!r4)) then
  (impl_in bits2 (0 : Int) (16 : Int)).bind fun r5 =>
  bif (!(!r5)) then
   (impl_in many3 (1 : Int) (40 : Int)).bind fun r6 =>
   bif (!r6) then
    k (((0 : Int), (0 : Int), (0 : Int), ()), false, [])
   else
   (impl_Piece_room (p1.1, p1.2.1, p1.2.2.1, ()) bits2).bind fun r7 =>
   bif decide (r7.2 < many3) then
    k ((p1.1, p1.2.1, p1.2.2.1, ()), false, [])
   else
   nnK many3 fun i8 =>
   chk (i8 ≤ bigRow) <|
   (loopF impl_RetypePiece_l0 (bits2, many3, r7.1, ((List.replicate i8 (0 : Int)).length : Int), (0 : Int), (p1.1, p1.2.1, p1.2.2.1, ()), ((0 : Int), (0 : Int), (0 : Int), ()), (List.replicate i8 (0 : Int)), ())).bind fun z19 =>
   chk (0 ≤ z19.1) <|
   k ((z19.2.2.2.1.1, z19.2.2.2.1.2.1, (IntKind.wrap .i64 ((IntKind.wrap .i64 (z19.2.2.1 + (IntKind.wrap .i64 (z19.2.1 * 2 ^ (min (z19.1).toNat 64))))) - z19.2.2.2.1.1)), ()), true, z19.2.2.2.2.2.1)
  else
  k (((0 : Int), (0 : Int), (0 : Int), ()), false, [])
 else
 k (((0 : Int), (0 : Int), (0 : Int), ()), false, [])
noncomputable def impl_RetypePiece (p1 : DPiece) (bits2 : Int) (many3 : Int) : Option (DPiece × Bool × (List Int)) :=
  impl_RetypePieceK p1 bits2 many3 some
theorem impl_RetypePiece_eq {γ : Type} (p1 : DPiece) (bits2 : Int) (many3 : Int) (k : DPiece × Bool × (List Int) → Option γ) : impl_RetypePieceK p1 bits2 many3 k = (impl_RetypePiece p1 bits2 many3).bind k := by
  simp only [impl_RetypePieceK, impl_RetypePiece, B0, B1, B2, B3, B4, B5, B6, B7, B8, C1, C2, C3, C4, C5]

/-! loop.example/capkernel/impl.SysRetype -/
noncomputable def impl_SysRetypeK {γ : Type} (kq1 : DKernel) (kind2 : Int) (slot3 : Int) (k : Int × Int × Int × Int × Int × (List DEntry) × (List Int) → Option γ) : Option γ :=
 (impl_KernelValid ((kq1.1.1, kq1.1.2.1, kq1.1.2.2.1, ()), kq1.2.1, kq1.2.2.1, kq1.2.2.2.1, ())).bind fun r4 =>
 bif (!r4) then
  k ((0 : Int), (0 : Int), (0 : Int), (0 : Int), (3 : Int), [], [])
 else
 (impl_Kernel_copyOf ((kq1.1.1, kq1.1.2.1, kq1.1.2.2.1, ()), kq1.2.1, kq1.2.2.1, kq1.2.2.2.1, ())).bind fun r5 =>
 (impl_ObjectBits kind2).bind fun r6 =>
 (impl_Kernel_empty ((kq1.1.1, kq1.1.2.1, kq1.1.2.2.1, ()), kq1.2.1, kq1.2.2.1, kq1.2.2.2.1, ()) slot3).bind fun r7 =>
 bif (!r7) then
  k (r5.1, r5.2.1, r5.2.2.1, r5.2.2.2.1, (1 : Int), r5.2.2.2.2.1, r5.2.2.2.2.2)
 else
 bif decide (r6 < (0 : Int)) then
  k (r5.1, r5.2.1, r5.2.2.1, r5.2.2.2.1, (3 : Int), r5.2.2.2.2.1, r5.2.2.2.2.2)
 else
 bif (!((kq1.2.1.length : Int) == (30 : Int))) then
  bif decide (kq1.2.2.2.1 > (99 : Int)) then
   k (r5.1, r5.2.1, r5.2.2.1, r5.2.2.2.1, (2 : Int), r5.2.2.2.2.1, r5.2.2.2.2.2)
  else
  (impl_RetypePiece (kq1.1.1, kq1.1.2.1, kq1.1.2.2.1, ()) r6 (1 : Int)).bind fun r8 =>
  bif (!r8.2.1) then
   k (r5.1, r5.2.1, r5.2.2.1, r5.2.2.2.1, (4 : Int), r5.2.2.2.2.1, r5.2.2.2.2.2)
  else
  chk ((r5.2.2.2.2.1.length + 1) ≤ bigRow) <|
  (impl_clone_Entry (r5.2.2.2.2.1 ++ [((kind2, kq1.2.2.2.1, (15 : Int), (0 : Int), ()), (-1 : Int), false, ())])).bind fun r9 =>
  nnK slot3 fun i10 =>
  chk (i10 < r5.2.2.2.2.2.length) <|
  getK r5.2.2.2.2.2 i10 fun y11 =>
  k (r8.1.1, r8.1.2.1, r8.1.2.2.1, (IntKind.wrap .i64 (r5.2.2.2.1 + (1 : Int))), (0 : Int), r9, (r5.2.2.2.2.2.set i10 (kq1.2.1.length : Int)))
 else
 k (r5.1, r5.2.1, r5.2.2.1, r5.2.2.2.1, (2 : Int), r5.2.2.2.2.1, r5.2.2.2.2.2)
noncomputable def impl_SysRetype (kq1 : DKernel) (kind2 : Int) (slot3 : Int) : Option (Int × Int × Int × Int × Int × (List DEntry) × (List Int)) :=
  impl_SysRetypeK kq1 kind2 slot3 some
theorem impl_SysRetype_eq {γ : Type} (kq1 : DKernel) (kind2 : Int) (slot3 : Int) (k : Int × Int × Int × Int × Int × (List DEntry) × (List Int) → Option γ) : impl_SysRetypeK kq1 kind2 slot3 k = (impl_SysRetype kq1 kind2 slot3).bind k := by
  simp only [impl_SysRetypeK, impl_SysRetype, B0, B1, B2, B3, B4, B5, B6, B7, B8, C1, C2, C3, C4, C5]

/-! loop.example/capkernel/laws.FnSysRetype -/
noncomputable def laws_FnSysRetypeK {γ : Type} (code1 : (List Int)) (k : Bool → Option γ) : Option γ :=
 bif decide ((code1.length : Int) > (1048576 : Int)) then
  k true
 else
 (spec_DrawSysRetype code1).bind fun r2 =>
 (impl_SysRetype ((r2.1, r2.2.1, r2.2.2.1, ()), r2.2.2.2.2.2.2.1, r2.2.2.2.2.2.2.2, r2.2.2.2.1, ()) r2.2.2.2.2.1 r2.2.2.2.2.2.1).bind fun r3 =>
 (spec_SysRetype ((r2.1, r2.2.1, r2.2.2.1, ()), r2.2.2.2.2.2.2.1, r2.2.2.2.2.2.2.2, r2.2.2.2.1, ()) r2.2.2.2.2.1 r2.2.2.2.2.2.1).bind fun r4 =>
 (laws_sameKernel ((r3.1, r3.2.1, r3.2.2.1, ()), r3.2.2.2.2.2.1, r3.2.2.2.2.2.2, r3.2.2.2.1, ()) ((r4.1, r4.2.1, r4.2.2.1, ()), r4.2.2.2.2.2.1, r4.2.2.2.2.2.2, r4.2.2.2.1, ())).bind fun r5 =>
 bif (!(!r5)) then
  bif (r3.2.2.2.2.1 != r4.2.2.2.2.1) then
   k false
  else
  bif (r3.2.2.2.2.1 != (0 : Int)) then
   (laws_sameKernel ((r3.1, r3.2.1, r3.2.2.1, ()), r3.2.2.2.2.2.1, r3.2.2.2.2.2.2, r3.2.2.2.1, ()) ((r2.1, r2.2.1, r2.2.2.1, ()), r2.2.2.2.2.2.2.1, r2.2.2.2.2.2.2.2, r2.2.2.2.1, ())).bind fun r6 =>
   bif (!r6) then
    (spec_KernelValid ((r2.1, r2.2.1, r2.2.2.1, ()), r2.2.2.2.2.2.2.1, r2.2.2.2.2.2.2.2, r2.2.2.2.1, ())).bind fun r7 =>
    bif (!r7) then
     (laws_alive).bind fun r8 =>
     k r8
    else
    k false
   else
   (laws_alive).bind fun r9 =>
   k r9
  else
  (impl_KernelValid ((r3.1, r3.2.1, r3.2.2.1, ()), r3.2.2.2.2.2.1, r3.2.2.2.2.2.2, r3.2.2.2.1, ())).bind fun r10 =>
  bif r10 then
   bif ((r3.2.2.2.2.2.1.length : Int) == (IntKind.wrap .i64 ((r2.2.2.2.2.2.2.1.length : Int) + (1 : Int)))) then
    chk (r2.2.2.2.2.2.2.1.length ≤ r3.2.2.2.2.2.1.length) <|
    (laws_sameTree (r3.2.2.2.2.2.1.take r2.2.2.2.2.2.2.1.length) r2.2.2.2.2.2.2.1).bind fun r11 =>
    bif r11 then
     nnK r2.2.2.2.2.2.1 fun i12 =>
     getK r3.2.2.2.2.2.2 i12 fun v13 =>
     bif (v13 == (r2.2.2.2.2.2.2.1.length : Int)) then
      getK r3.2.2.2.2.2.1 r2.2.2.2.2.2.2.1.length fun v14 =>
      bif ((decide (v14.1.1 = r2.2.2.2.2.1) && (decide (v14.1.2.1 = r2.2.2.2.1) && (decide (v14.1.2.2.1 = (15 : Int)) && (decide (v14.1.2.2.2.1 = (0 : Int)) && true))))) then
       (impl_StrongestLeft r2.2.2.2.2.2.2.1 r2.2.2.2.2.1 r2.2.2.2.1).bind fun r15 =>
       k (r15 == (0 : Int))
      else
      k false
     else
     k false
    else
    k false
   else
   k false
  else
  k false
 else
 k false
noncomputable def laws_FnSysRetype (code1 : (List Int)) : Option (Bool) :=
  laws_FnSysRetypeK code1 some
theorem laws_FnSysRetype_eq {γ : Type} (code1 : (List Int)) (k : Bool → Option γ) : laws_FnSysRetypeK code1 k = (laws_FnSysRetype code1).bind k := by
  simp only [laws_FnSysRetypeK, laws_FnSysRetype, B0, B1, B2, B3, B4, B5, B6, B7, B8, C1, C2, C3, C4, C5]

/-! math/bits.Mul64 -/
noncomputable def math_bits_Mul64K {γ : Type} (x1 : Int) (y2 : Int) (k : Int × Int → Option γ) : Option γ :=
 k ((IntKind.wrap .u64 ((IntKind.wrap .u64 ((IntKind.wrap .u64 ((Int.fdiv x1 (2 ^ (min ((32 : Int)).toNat 64))) * (Int.fdiv y2 (2 ^ (min ((32 : Int)).toNat 64))))) + (Int.fdiv (IntKind.wrap .u64 ((IntKind.wrap .u64 ((Int.fdiv x1 (2 ^ (min ((32 : Int)).toNat 64))) * (IntKind.wrap .u64 (((BitVec.ofInt 64 y2 &&& BitVec.ofInt 64 (4294967295 : Int)).toNat : Int))))) + (Int.fdiv (IntKind.wrap .u64 ((IntKind.wrap .u64 (((BitVec.ofInt 64 x1 &&& BitVec.ofInt 64 (4294967295 : Int)).toNat : Int))) * (IntKind.wrap .u64 (((BitVec.ofInt 64 y2 &&& BitVec.ofInt 64 (4294967295 : Int)).toNat : Int))))) (2 ^ (min ((32 : Int)).toNat 64))))) (2 ^ (min ((32 : Int)).toNat 64))))) + (Int.fdiv (IntKind.wrap .u64 ((IntKind.wrap .u64 (((BitVec.ofInt 64 (IntKind.wrap .u64 ((IntKind.wrap .u64 ((Int.fdiv x1 (2 ^ (min ((32 : Int)).toNat 64))) * (IntKind.wrap .u64 (((BitVec.ofInt 64 y2 &&& BitVec.ofInt 64 (4294967295 : Int)).toNat : Int))))) + (Int.fdiv (IntKind.wrap .u64 ((IntKind.wrap .u64 (((BitVec.ofInt 64 x1 &&& BitVec.ofInt 64 (4294967295 : Int)).toNat : Int))) * (IntKind.wrap .u64 (((BitVec.ofInt 64 y2 &&& BitVec.ofInt 64 (4294967295 : Int)).toNat : Int))))) (2 ^ (min ((32 : Int)).toNat 64))))) &&& BitVec.ofInt 64 (4294967295 : Int)).toNat : Int))) + (IntKind.wrap .u64 ((IntKind.wrap .u64 (((BitVec.ofInt 64 x1 &&& BitVec.ofInt 64 (4294967295 : Int)).toNat : Int))) * (Int.fdiv y2 (2 ^ (min ((32 : Int)).toNat 64))))))) (2 ^ (min ((32 : Int)).toNat 64))))), (IntKind.wrap .u64 (x1 * y2)))
noncomputable def math_bits_Mul64 (x1 : Int) (y2 : Int) : Option (Int × Int) :=
  math_bits_Mul64K x1 y2 some
theorem math_bits_Mul64_eq {γ : Type} (x1 : Int) (y2 : Int) (k : Int × Int → Option γ) : math_bits_Mul64K x1 y2 k = (math_bits_Mul64 x1 y2).bind k := by
  simp only [math_bits_Mul64K, math_bits_Mul64, B0, B1, B2, B3, B4, B5, B6, B7, B8, C1, C2, C3, C4, C5]

/-! math/bits.Mul -/
noncomputable def math_bits_MulK {γ : Type} (x1 : Int) (y2 : Int) (k : Int × Int → Option γ) : Option γ :=
 (math_bits_Mul64 x1 y2).bind fun r3 =>
 k (r3.1, r3.2)
noncomputable def math_bits_Mul (x1 : Int) (y2 : Int) : Option (Int × Int) :=
  math_bits_MulK x1 y2 some
theorem math_bits_Mul_eq {γ : Type} (x1 : Int) (y2 : Int) (k : Int × Int → Option γ) : math_bits_MulK x1 y2 k = (math_bits_Mul x1 y2).bind k := by
  simp only [math_bits_MulK, math_bits_Mul, B0, B1, B2, B3, B4, B5, B6, B7, B8, C1, C2, C3, C4, C5]

/-! slices.Repeat(()int,int) -/
noncomputable def slices_Repeat_int_l0K {γ : Type} (n5 : Int) (b6 : (List Int)) (kn : Int × (List Int) × Unit → Option γ) (kx : (List Int) × Unit → Option γ) : Option γ :=
 bif decide (n5 < (b6.length : Int)) then
  nnK n5 fun i7 =>
  chk (i7 ≤ b6.length) <|
  nnK n5 fun i8 =>
  chk (i8 ≤ b6.length) <|
  kn ((IntKind.wrap .i64 (n5 + ((min ((b6.drop 0).take i8).length (b6.length - i7) : Nat) : Int))), (over b6 i7 (((b6.drop 0).take i8).take (b6.length - i7))), ())
 else
 kx (b6, ())
noncomputable def slices_Repeat_int_l0 (x : Int × (List Int) × Unit) : Option ((Int × (List Int) × Unit) ⊕ ((List Int) × Unit)) :=
  slices_Repeat_int_l0K x.1 x.2.1 (fun y => some (.inl y)) (fun a => some (.inr a))
theorem slices_Repeat_int_l0_eq {γ : Type} (n5 : Int) (b6 : (List Int)) (kn : Int × (List Int) × Unit → Option γ) (kx : (List Int) × Unit → Option γ) : slices_Repeat_int_l0K n5 b6 kn kx = (slices_Repeat_int_l0 (n5, b6, ())).bind fun r => sum2K r kn kx := by
  simp only [slices_Repeat_int_l0K, slices_Repeat_int_l0, B0, B1, B2, B3, B4, B5, B6, B7, B8, C1, C2, C3, C4, C5]
noncomputable def slices_Repeat_intK {γ : Type} (x1 : (List Int)) (count2 : Int) (k : (List Int) → Option γ) : Option γ :=
 bif decide (count2 < (0 : Int)) then
  none
 else
 (math_bits_Mul (IntKind.wrap .u64 ((x1.length : Int))) (IntKind.wrap .u64 (count2))).bind fun r3 =>
 bif (!decide (r3.1 > (0 : Int))) then
  bif decide (r3.2 > (9223372036854775807 : Int)) then
   none
  else
  nnK (IntKind.wrap .i64 (r3.2)) fun i4 =>
  chk (i4 ≤ bigRow) <|
  (loopF slices_Repeat_int_l0 (((min x1.length (List.replicate i4 (0 : Int)).length : Nat) : Int), (over (List.replicate i4 (0 : Int)) 0 (x1.take (List.replicate i4 (0 : Int)).length)), ())).bind fun z9 =>
  k z9.1
 else
 none
noncomputable def slices_Repeat_int (x1 : (List Int)) (count2 : Int) : Option ((List Int)) :=
  slices_Repeat_intK x1 count2 some
theorem slices_Repeat_int_eq {γ : Type} (x1 : (List Int)) (count2 : Int) (k : (List Int) → Option γ) : slices_Repeat_intK x1 count2 k = (slices_Repeat_int x1 count2).bind k := by
  simp only [slices_Repeat_intK, slices_Repeat_int, B0, B1, B2, B3, B4, B5, B6, B7, B8, C1, C2, C3, C4, C5]

/-! loop.example/capkernel/impl.NewKernel -/
noncomputable def impl_NewKernelK {γ : Type} (bits1 : Int) (places2 : Int) (k : Int × Int × Int × Int × (List DEntry) × (List Int) → Option γ) : Option γ :=
 (impl_in bits1 (0 : Int) (16 : Int)).bind fun r3 =>
 bif (!(!r3)) then
  (impl_in places2 (0 : Int) (40 : Int)).bind fun r4 =>
  bif (!r4) then
   k ((0 : Int), (0 : Int), (0 : Int), (0 : Int), [], [])
  else
  (slices_Repeat_int [(-1 : Int)] places2).bind fun r5 =>
  k ((0 : Int), bits1, (0 : Int), (0 : Int), [], r5)
 else
 k ((0 : Int), (0 : Int), (0 : Int), (0 : Int), [], [])
noncomputable def impl_NewKernel (bits1 : Int) (places2 : Int) : Option (Int × Int × Int × Int × (List DEntry) × (List Int)) :=
  impl_NewKernelK bits1 places2 some
theorem impl_NewKernel_eq {γ : Type} (bits1 : Int) (places2 : Int) (k : Int × Int × Int × Int × (List DEntry) × (List Int) → Option γ) : impl_NewKernelK bits1 places2 k = (impl_NewKernel bits1 places2).bind k := by
  simp only [impl_NewKernelK, impl_NewKernel, B0, B1, B2, B3, B4, B5, B6, B7, B8, C1, C2, C3, C4, C5]

/-! loop.example/capkernel/laws.eqPiece -/
noncomputable def laws_eqPieceK {γ : Type} (a1 : DPiece) (b2 : DPiece) (k : Bool → Option γ) : Option γ :=
 bif (a1.1 != b2.1) then
  k false
 else
 bif (a1.2.1 != b2.2.1) then
  k false
 else
 bif (a1.2.2.1 != b2.2.2.1) then
  k false
 else
 k true
noncomputable def laws_eqPiece (a1 : DPiece) (b2 : DPiece) : Option (Bool) :=
  laws_eqPieceK a1 b2 some
theorem laws_eqPiece_eq {γ : Type} (a1 : DPiece) (b2 : DPiece) (k : Bool → Option γ) : laws_eqPieceK a1 b2 k = (laws_eqPiece a1 b2).bind k := by
  simp only [laws_eqPieceK, laws_eqPiece, B0, B1, B2, B3, B4, B5, B6, B7, B8, C1, C2, C3, C4, C5]

/-! loop.example/capkernel/laws.eqCap -/
noncomputable def laws_eqCapK {γ : Type} (a1 : DCap) (b2 : DCap) (k : Bool → Option γ) : Option γ :=
 bif (a1.1 != b2.1) then
  k false
 else
 bif (a1.2.1 != b2.2.1) then
  k false
 else
 bif (a1.2.2.1 != b2.2.2.1) then
  k false
 else
 bif (a1.2.2.2.1 != b2.2.2.2.1) then
  k false
 else
 k true
noncomputable def laws_eqCap (a1 : DCap) (b2 : DCap) : Option (Bool) :=
  laws_eqCapK a1 b2 some
theorem laws_eqCap_eq {γ : Type} (a1 : DCap) (b2 : DCap) (k : Bool → Option γ) : laws_eqCapK a1 b2 k = (laws_eqCap a1 b2).bind k := by
  simp only [laws_eqCapK, laws_eqCap, B0, B1, B2, B3, B4, B5, B6, B7, B8, C1, C2, C3, C4, C5]

/-! loop.example/capkernel/laws.eqEntry -/
noncomputable def laws_eqEntryK {γ : Type} (a1 : DEntry) (b2 : DEntry) (k : Bool → Option γ) : Option γ :=
 (laws_eqCap (a1.1.1, a1.1.2.1, a1.1.2.2.1, a1.1.2.2.2.1, ()) (b2.1.1, b2.1.2.1, b2.1.2.2.1, b2.1.2.2.2.1, ())).bind fun r3 =>
 bif (!r3) then
  k false
 else
 bif (a1.2.1 != b2.2.1) then
  k false
 else
 bif (!(a1.2.2.1 == b2.2.2.1)) then
  k false
 else
 k true
noncomputable def laws_eqEntry (a1 : DEntry) (b2 : DEntry) : Option (Bool) :=
  laws_eqEntryK a1 b2 some
theorem laws_eqEntry_eq {γ : Type} (a1 : DEntry) (b2 : DEntry) (k : Bool → Option γ) : laws_eqEntryK a1 b2 k = (laws_eqEntry a1 b2).bind k := by
  simp only [laws_eqEntryK, laws_eqEntry, B0, B1, B2, B3, B4, B5, B6, B7, B8, C1, C2, C3, C4, C5]

/-! loop.example/capkernel/laws.eqEntryS -/
noncomputable def laws_eqEntryS_l0K {γ : Type} (a3 : (List DEntry)) (b4 : (List DEntry)) (i5 : Int) (kn : (List DEntry) × (List DEntry) × Int × Unit → Option γ) (kx : Unit → Option γ) (kr : Bool × Unit → Option γ) : Option γ :=
 bif decide (i5 < (a3.length : Int)) then
  nnK i5 fun i6 =>
  getK a3 i6 fun v7 =>
  nnK i5 fun i8 =>
  getK b4 i8 fun v9 =>
  (laws_eqEntry v7 v9).bind fun r10 =>
  bif (!r10) then
   kr (false, ())
  else
  kn (a3, b4, (IntKind.wrap .i64 (i5 + (1 : Int))), ())
 else
 kx ()
noncomputable def laws_eqEntryS_l0 (x : (List DEntry) × (List DEntry) × Int × Unit) : Option (((List DEntry) × (List DEntry) × Int × Unit) ⊕ ((Unit) ⊕ (Bool × Unit))) :=
  laws_eqEntryS_l0K x.1 x.2.1 x.2.2.1 (fun y => some (.inl y)) (fun a => some (.inr (.inl a))) (fun b => some (.inr (.inr b)))
theorem laws_eqEntryS_l0_eq {γ : Type} (a3 : (List DEntry)) (b4 : (List DEntry)) (i5 : Int) (kn : (List DEntry) × (List DEntry) × Int × Unit → Option γ) (kx : Unit → Option γ) (kr : Bool × Unit → Option γ) : laws_eqEntryS_l0K a3 b4 i5 kn kx kr = (laws_eqEntryS_l0 (a3, b4, i5, ())).bind fun r => sum3K r kn kx kr := by
  simp only [laws_eqEntryS_l0K, laws_eqEntryS_l0, B0, B1, B2, B3, B4, B5, B6, B7, B8, C1, C2, C3, C4, C5]
noncomputable def laws_eqEntrySK {γ : Type} (a1 : (List DEntry)) (b2 : (List DEntry)) (k : Bool → Option γ) : Option γ :=
 bif ((a1.length : Int) != (b2.length : Int)) then
  k false
 else
 (loopF laws_eqEntryS_l0 (a1, b2, (0 : Int), ())).bind fun q => endK q (fun z11 =>
  k true) (fun z12 =>
  k z12.1)
noncomputable def laws_eqEntryS (a1 : (List DEntry)) (b2 : (List DEntry)) : Option (Bool) :=
  laws_eqEntrySK a1 b2 some
theorem laws_eqEntryS_eq {γ : Type} (a1 : (List DEntry)) (b2 : (List DEntry)) (k : Bool → Option γ) : laws_eqEntrySK a1 b2 k = (laws_eqEntryS a1 b2).bind k := by
  simp only [laws_eqEntrySK, laws_eqEntryS, B0, B1, B2, B3, B4, B5, B6, B7, B8, C1, C2, C3, C4, C5]

/-! loop.example/capkernel/laws.eqIntS -/
noncomputable def laws_eqIntS_l0K {γ : Type} (a3 : (List Int)) (b4 : (List Int)) (i5 : Int) (kn : (List Int) × (List Int) × Int × Unit → Option γ) (kx : Unit → Option γ) (kr : Bool × Unit → Option γ) : Option γ :=
 bif decide (i5 < (a3.length : Int)) then
  nnK i5 fun i6 =>
  getK a3 i6 fun v7 =>
  nnK i5 fun i8 =>
  getK b4 i8 fun v9 =>
  bif (v7 != v9) then
   kr (false, ())
  else
  kn (a3, b4, (IntKind.wrap .i64 (i5 + (1 : Int))), ())
 else
 kx ()
noncomputable def laws_eqIntS_l0 (x : (List Int) × (List Int) × Int × Unit) : Option (((List Int) × (List Int) × Int × Unit) ⊕ ((Unit) ⊕ (Bool × Unit))) :=
  laws_eqIntS_l0K x.1 x.2.1 x.2.2.1 (fun y => some (.inl y)) (fun a => some (.inr (.inl a))) (fun b => some (.inr (.inr b)))
theorem laws_eqIntS_l0_eq {γ : Type} (a3 : (List Int)) (b4 : (List Int)) (i5 : Int) (kn : (List Int) × (List Int) × Int × Unit → Option γ) (kx : Unit → Option γ) (kr : Bool × Unit → Option γ) : laws_eqIntS_l0K a3 b4 i5 kn kx kr = (laws_eqIntS_l0 (a3, b4, i5, ())).bind fun r => sum3K r kn kx kr := by
  simp only [laws_eqIntS_l0K, laws_eqIntS_l0, B0, B1, B2, B3, B4, B5, B6, B7, B8, C1, C2, C3, C4, C5]
noncomputable def laws_eqIntSK {γ : Type} (a1 : (List Int)) (b2 : (List Int)) (k : Bool → Option γ) : Option γ :=
 bif ((a1.length : Int) != (b2.length : Int)) then
  k false
 else
 (loopF laws_eqIntS_l0 (a1, b2, (0 : Int), ())).bind fun q => endK q (fun z10 =>
  k true) (fun z11 =>
  k z11.1)
noncomputable def laws_eqIntS (a1 : (List Int)) (b2 : (List Int)) : Option (Bool) :=
  laws_eqIntSK a1 b2 some
theorem laws_eqIntS_eq {γ : Type} (a1 : (List Int)) (b2 : (List Int)) (k : Bool → Option γ) : laws_eqIntSK a1 b2 k = (laws_eqIntS a1 b2).bind k := by
  simp only [laws_eqIntSK, laws_eqIntS, B0, B1, B2, B3, B4, B5, B6, B7, B8, C1, C2, C3, C4, C5]

/-! loop.example/capkernel/laws.eqKernel -/
noncomputable def laws_eqKernelK {γ : Type} (a1 : DKernel) (b2 : DKernel) (k : Bool → Option γ) : Option γ :=
 (laws_eqPiece (a1.1.1, a1.1.2.1, a1.1.2.2.1, ()) (b2.1.1, b2.1.2.1, b2.1.2.2.1, ())).bind fun r3 =>
 bif (!r3) then
  k false
 else
 (laws_eqEntryS a1.2.1 b2.2.1).bind fun r4 =>
 bif (!r4) then
  k false
 else
 (laws_eqIntS a1.2.2.1 b2.2.2.1).bind fun r5 =>
 bif (!r5) then
  k false
 else
 bif (a1.2.2.2.1 != b2.2.2.2.1) then
  k false
 else
 k true
noncomputable def laws_eqKernel (a1 : DKernel) (b2 : DKernel) : Option (Bool) :=
  laws_eqKernelK a1 b2 some
theorem laws_eqKernel_eq {γ : Type} (a1 : DKernel) (b2 : DKernel) (k : Bool → Option γ) : laws_eqKernelK a1 b2 k = (laws_eqKernel a1 b2).bind k := by
  simp only [laws_eqKernelK, laws_eqKernel, B0, B1, B2, B3, B4, B5, B6, B7, B8, C1, C2, C3, C4, C5]

/-! loop.example/capkernel/laws.markEntryS -/
noncomputable def laws_markEntryS_l0K {γ : Type} (kq3 : Int) (i4 : Int) (b5 : (List DEntry)) (kn : Int × Int × (List DEntry) × Unit → Option γ) (kx : Int × (List DEntry) × Unit → Option γ) : Option γ :=
 bif decide (i4 < (b5.length : Int)) then
  nnK i4 fun i6 =>
  chk (i6 < b5.length) <|
  getK b5 i6 fun y7 =>
  nnK i4 fun i8 =>
  chk (i8 < (b5.set i6 ((kq3, y7.1.2.1, y7.1.2.2.1, y7.1.2.2.2.1, ()), y7.2.1, y7.2.2.1, ())).length) <|
  getK (b5.set i6 ((kq3, y7.1.2.1, y7.1.2.2.1, y7.1.2.2.2.1, ()), y7.2.1, y7.2.2.1, ())) i8 fun y9 =>
  nnK i4 fun i10 =>
  chk (i10 < ((b5.set i6 ((kq3, y7.1.2.1, y7.1.2.2.1, y7.1.2.2.2.1, ()), y7.2.1, y7.2.2.1, ())).set i8 ((y9.1.1, (IntKind.wrap .i64 (kq3 + (1 : Int))), y9.1.2.2.1, y9.1.2.2.2.1, ()), y9.2.1, y9.2.2.1, ())).length) <|
  getK ((b5.set i6 ((kq3, y7.1.2.1, y7.1.2.2.1, y7.1.2.2.2.1, ()), y7.2.1, y7.2.2.1, ())).set i8 ((y9.1.1, (IntKind.wrap .i64 (kq3 + (1 : Int))), y9.1.2.2.1, y9.1.2.2.2.1, ()), y9.2.1, y9.2.2.1, ())) i10 fun y11 =>
  nnK i4 fun i12 =>
  chk (i12 < (((b5.set i6 ((kq3, y7.1.2.1, y7.1.2.2.1, y7.1.2.2.2.1, ()), y7.2.1, y7.2.2.1, ())).set i8 ((y9.1.1, (IntKind.wrap .i64 (kq3 + (1 : Int))), y9.1.2.2.1, y9.1.2.2.2.1, ()), y9.2.1, y9.2.2.1, ())).set i10 ((y11.1.1, y11.1.2.1, (IntKind.wrap .i64 ((IntKind.wrap .i64 (kq3 + (1 : Int))) + (1 : Int))), y11.1.2.2.2.1, ()), y11.2.1, y11.2.2.1, ())).length) <|
  getK (((b5.set i6 ((kq3, y7.1.2.1, y7.1.2.2.1, y7.1.2.2.2.1, ()), y7.2.1, y7.2.2.1, ())).set i8 ((y9.1.1, (IntKind.wrap .i64 (kq3 + (1 : Int))), y9.1.2.2.1, y9.1.2.2.2.1, ()), y9.2.1, y9.2.2.1, ())).set i10 ((y11.1.1, y11.1.2.1, (IntKind.wrap .i64 ((IntKind.wrap .i64 (kq3 + (1 : Int))) + (1 : Int))), y11.1.2.2.2.1, ()), y11.2.1, y11.2.2.1, ())) i12 fun y13 =>
  nnK i4 fun i14 =>
  chk (i14 < ((((b5.set i6 ((kq3, y7.1.2.1, y7.1.2.2.1, y7.1.2.2.2.1, ()), y7.2.1, y7.2.2.1, ())).set i8 ((y9.1.1, (IntKind.wrap .i64 (kq3 + (1 : Int))), y9.1.2.2.1, y9.1.2.2.2.1, ()), y9.2.1, y9.2.2.1, ())).set i10 ((y11.1.1, y11.1.2.1, (IntKind.wrap .i64 ((IntKind.wrap .i64 (kq3 + (1 : Int))) + (1 : Int))), y11.1.2.2.2.1, ()), y11.2.1, y11.2.2.1, ())).set i12 ((y13.1.1, y13.1.2.1, y13.1.2.2.1, (IntKind.wrap .i64 ((IntKind.wrap .i64 ((IntKind.wrap .i64 (kq3 + (1 : Int))) + (1 : Int))) + (1 : Int))), ()), y13.2.1, y13.2.2.1, ())).length) <|
  getK ((((b5.set i6 ((kq3, y7.1.2.1, y7.1.2.2.1, y7.1.2.2.2.1, ()), y7.2.1, y7.2.2.1, ())).set i8 ((y9.1.1, (IntKind.wrap .i64 (kq3 + (1 : Int))), y9.1.2.2.1, y9.1.2.2.2.1, ()), y9.2.1, y9.2.2.1, ())).set i10 ((y11.1.1, y11.1.2.1, (IntKind.wrap .i64 ((IntKind.wrap .i64 (kq3 + (1 : Int))) + (1 : Int))), y11.1.2.2.2.1, ()), y11.2.1, y11.2.2.1, ())).set i12 ((y13.1.1, y13.1.2.1, y13.1.2.2.1, (IntKind.wrap .i64 ((IntKind.wrap .i64 ((IntKind.wrap .i64 (kq3 + (1 : Int))) + (1 : Int))) + (1 : Int))), ()), y13.2.1, y13.2.2.1, ())) i14 fun y15 =>
  nnK i4 fun i16 =>
  chk (i16 < (((((b5.set i6 ((kq3, y7.1.2.1, y7.1.2.2.1, y7.1.2.2.2.1, ()), y7.2.1, y7.2.2.1, ())).set i8 ((y9.1.1, (IntKind.wrap .i64 (kq3 + (1 : Int))), y9.1.2.2.1, y9.1.2.2.2.1, ()), y9.2.1, y9.2.2.1, ())).set i10 ((y11.1.1, y11.1.2.1, (IntKind.wrap .i64 ((IntKind.wrap .i64 (kq3 + (1 : Int))) + (1 : Int))), y11.1.2.2.2.1, ()), y11.2.1, y11.2.2.1, ())).set i12 ((y13.1.1, y13.1.2.1, y13.1.2.2.1, (IntKind.wrap .i64 ((IntKind.wrap .i64 ((IntKind.wrap .i64 (kq3 + (1 : Int))) + (1 : Int))) + (1 : Int))), ()), y13.2.1, y13.2.2.1, ())).set i14 (y15.1, (IntKind.wrap .i64 ((IntKind.wrap .i64 ((IntKind.wrap .i64 ((IntKind.wrap .i64 (kq3 + (1 : Int))) + (1 : Int))) + (1 : Int))) + (1 : Int))), y15.2.2.1, ())).length) <|
  getK (((((b5.set i6 ((kq3, y7.1.2.1, y7.1.2.2.1, y7.1.2.2.2.1, ()), y7.2.1, y7.2.2.1, ())).set i8 ((y9.1.1, (IntKind.wrap .i64 (kq3 + (1 : Int))), y9.1.2.2.1, y9.1.2.2.2.1, ()), y9.2.1, y9.2.2.1, ())).set i10 ((y11.1.1, y11.1.2.1, (IntKind.wrap .i64 ((IntKind.wrap .i64 (kq3 + (1 : Int))) + (1 : Int))), y11.1.2.2.2.1, ()), y11.2.1, y11.2.2.1, ())).set i12 ((y13.1.1, y13.1.2.1, y13.1.2.2.1, (IntKind.wrap .i64 ((IntKind.wrap .i64 ((IntKind.wrap .i64 (kq3 + (1 : Int))) + (1 : Int))) + (1 : Int))), ()), y13.2.1, y13.2.2.1, ())).set i14 (y15.1, (IntKind.wrap .i64 ((IntKind.wrap .i64 ((IntKind.wrap .i64 ((IntKind.wrap .i64 (kq3 + (1 : Int))) + (1 : Int))) + (1 : Int))) + (1 : Int))), y15.2.2.1, ())) i16 fun y17 =>
  kn ((IntKind.wrap .i64 ((IntKind.wrap .i64 ((IntKind.wrap .i64 ((IntKind.wrap .i64 ((IntKind.wrap .i64 ((IntKind.wrap .i64 (kq3 + (1 : Int))) + (1 : Int))) + (1 : Int))) + (1 : Int))) + (1 : Int))) + (1 : Int))), (IntKind.wrap .i64 (i4 + (1 : Int))), ((((((b5.set i6 ((kq3, y7.1.2.1, y7.1.2.2.1, y7.1.2.2.2.1, ()), y7.2.1, y7.2.2.1, ())).set i8 ((y9.1.1, (IntKind.wrap .i64 (kq3 + (1 : Int))), y9.1.2.2.1, y9.1.2.2.2.1, ()), y9.2.1, y9.2.2.1, ())).set i10 ((y11.1.1, y11.1.2.1, (IntKind.wrap .i64 ((IntKind.wrap .i64 (kq3 + (1 : Int))) + (1 : Int))), y11.1.2.2.2.1, ()), y11.2.1, y11.2.2.1, ())).set i12 ((y13.1.1, y13.1.2.1, y13.1.2.2.1, (IntKind.wrap .i64 ((IntKind.wrap .i64 ((IntKind.wrap .i64 (kq3 + (1 : Int))) + (1 : Int))) + (1 : Int))), ()), y13.2.1, y13.2.2.1, ())).set i14 (y15.1, (IntKind.wrap .i64 ((IntKind.wrap .i64 ((IntKind.wrap .i64 ((IntKind.wrap .i64 (kq3 + (1 : Int))) + (1 : Int))) + (1 : Int))) + (1 : Int))), y15.2.2.1, ())).set i16 (y17.1, y17.2.1, ((Int.tmod (IntKind.wrap .i64 ((IntKind.wrap .i64 ((IntKind.wrap .i64 ((IntKind.wrap .i64 ((IntKind.wrap .i64 (kq3 + (1 : Int))) + (1 : Int))) + (1 : Int))) + (1 : Int))) + (1 : Int))) (3 : Int)) == (0 : Int)), ())), ())
 else
 kx (kq3, b5, ())
noncomputable def laws_markEntryS_l0 (x : Int × Int × (List DEntry) × Unit) : Option ((Int × Int × (List DEntry) × Unit) ⊕ (Int × (List DEntry) × Unit)) :=
  laws_markEntryS_l0K x.1 x.2.1 x.2.2.1 (fun y => some (.inl y)) (fun a => some (.inr a))
theorem laws_markEntryS_l0_eq {γ : Type} (kq3 : Int) (i4 : Int) (b5 : (List DEntry)) (kn : Int × Int × (List DEntry) × Unit → Option γ) (kx : Int × (List DEntry) × Unit → Option γ) : laws_markEntryS_l0K kq3 i4 b5 kn kx = (laws_markEntryS_l0 (kq3, i4, b5, ())).bind fun r => sum2K r kn kx := by
  simp only [laws_markEntryS_l0K, laws_markEntryS_l0, B0, B1, B2, B3, B4, B5, B6, B7, B8, C1, C2, C3, C4, C5]
noncomputable def laws_markEntrySK {γ : Type} (kq1 : Int) (b2 : (List DEntry)) (k : Int × (List DEntry) → Option γ) : Option γ :=
 (loopF laws_markEntryS_l0 (kq1, (0 : Int), b2, ())).bind fun z18 =>
 k (z18.1, z18.2.1)
noncomputable def laws_markEntryS (kq1 : Int) (b2 : (List DEntry)) : Option (Int × (List DEntry)) :=
  laws_markEntrySK kq1 b2 some
theorem laws_markEntryS_eq {γ : Type} (kq1 : Int) (b2 : (List DEntry)) (k : Int × (List DEntry) → Option γ) : laws_markEntrySK kq1 b2 k = (laws_markEntryS kq1 b2).bind k := by
  simp only [laws_markEntrySK, laws_markEntryS, B0, B1, B2, B3, B4, B5, B6, B7, B8, C1, C2, C3, C4, C5]

/-! loop.example/capkernel/laws.markIntS -/
noncomputable def laws_markIntS_l0K {γ : Type} (kq3 : Int) (i4 : Int) (b5 : (List Int)) (kn : Int × Int × (List Int) × Unit → Option γ) (kx : Int × (List Int) × Unit → Option γ) : Option γ :=
 bif decide (i4 < (b5.length : Int)) then
  nnK i4 fun i6 =>
  chk (i6 < b5.length) <|
  getK b5 i6 fun y7 =>
  kn ((IntKind.wrap .i64 (kq3 + (1 : Int))), (IntKind.wrap .i64 (i4 + (1 : Int))), (b5.set i6 kq3), ())
 else
 kx (kq3, b5, ())
noncomputable def laws_markIntS_l0 (x : Int × Int × (List Int) × Unit) : Option ((Int × Int × (List Int) × Unit) ⊕ (Int × (List Int) × Unit)) :=
  laws_markIntS_l0K x.1 x.2.1 x.2.2.1 (fun y => some (.inl y)) (fun a => some (.inr a))
theorem laws_markIntS_l0_eq {γ : Type} (kq3 : Int) (i4 : Int) (b5 : (List Int)) (kn : Int × Int × (List Int) × Unit → Option γ) (kx : Int × (List Int) × Unit → Option γ) : laws_markIntS_l0K kq3 i4 b5 kn kx = (laws_markIntS_l0 (kq3, i4, b5, ())).bind fun r => sum2K r kn kx := by
  simp only [laws_markIntS_l0K, laws_markIntS_l0, B0, B1, B2, B3, B4, B5, B6, B7, B8, C1, C2, C3, C4, C5]
noncomputable def laws_markIntSK {γ : Type} (kq1 : Int) (b2 : (List Int)) (k : Int × (List Int) → Option γ) : Option γ :=
 (loopF laws_markIntS_l0 (kq1, (0 : Int), b2, ())).bind fun z8 =>
 k (z8.1, z8.2.1)
noncomputable def laws_markIntS (kq1 : Int) (b2 : (List Int)) : Option (Int × (List Int)) :=
  laws_markIntSK kq1 b2 some
theorem laws_markIntS_eq {γ : Type} (kq1 : Int) (b2 : (List Int)) (k : Int × (List Int) → Option γ) : laws_markIntSK kq1 b2 k = (laws_markIntS kq1 b2).bind k := by
  simp only [laws_markIntSK, laws_markIntS, B0, B1, B2, B3, B4, B5, B6, B7, B8, C1, C2, C3, C4, C5]

/-! loop.example/capkernel/laws.markKernel -/
noncomputable def laws_markKernelK {γ : Type} (a1 : Int) (a2 : Int) (a3 : Int) (a4 : Int) (kq5 : Int) (b6 : (List DEntry)) (b7 : (List Int)) (k : Int × (List DEntry) × (List Int) → Option γ) : Option γ :=
 (laws_markEntryS kq5 b6).bind fun r8 =>
 (laws_markIntS r8.1 b7).bind fun r9 =>
 k (r9.1, r8.2, r9.2)
noncomputable def laws_markKernel (a1 : Int) (a2 : Int) (a3 : Int) (a4 : Int) (kq5 : Int) (b6 : (List DEntry)) (b7 : (List Int)) : Option (Int × (List DEntry) × (List Int)) :=
  laws_markKernelK a1 a2 a3 a4 kq5 b6 b7 some
theorem laws_markKernel_eq {γ : Type} (a1 : Int) (a2 : Int) (a3 : Int) (a4 : Int) (kq5 : Int) (b6 : (List DEntry)) (b7 : (List Int)) (k : Int × (List DEntry) × (List Int) → Option γ) : laws_markKernelK a1 a2 a3 a4 kq5 b6 b7 k = (laws_markKernel a1 a2 a3 a4 kq5 b6 b7).bind k := by
  simp only [laws_markKernelK, laws_markKernel, B0, B1, B2, B3, B4, B5, B6, B7, B8, C1, C2, C3, C4, C5]

/-! loop.example/capkernel/laws.heldEntryS -/
noncomputable def laws_heldEntryS_l0K {γ : Type} (a3 : (List DEntry)) (kq4 : Int) (i5 : Int) (kn : (List DEntry) × Int × Int × Unit → Option γ) (kx : Int × Unit → Option γ) (kr : Int × Unit → Option γ) : Option γ :=
 bif decide (i5 < (a3.length : Int)) then
  nnK i5 fun i6 =>
  getK a3 i6 fun v7 =>
  bif (v7.1.1 != kq4) then
   kr ((-1 : Int), ())
  else
  nnK i5 fun i8 =>
  getK a3 i8 fun v9 =>
  bif (v9.1.2.1 != (IntKind.wrap .i64 (kq4 + (1 : Int)))) then
   kr ((-1 : Int), ())
  else
  nnK i5 fun i10 =>
  getK a3 i10 fun v11 =>
  bif (v11.1.2.2.1 != (IntKind.wrap .i64 ((IntKind.wrap .i64 (kq4 + (1 : Int))) + (1 : Int)))) then
   kr ((-1 : Int), ())
  else
  nnK i5 fun i12 =>
  getK a3 i12 fun v13 =>
  bif (v13.1.2.2.2.1 != (IntKind.wrap .i64 ((IntKind.wrap .i64 ((IntKind.wrap .i64 (kq4 + (1 : Int))) + (1 : Int))) + (1 : Int)))) then
   kr ((-1 : Int), ())
  else
  nnK i5 fun i14 =>
  getK a3 i14 fun v15 =>
  bif (v15.2.1 != (IntKind.wrap .i64 ((IntKind.wrap .i64 ((IntKind.wrap .i64 ((IntKind.wrap .i64 (kq4 + (1 : Int))) + (1 : Int))) + (1 : Int))) + (1 : Int)))) then
   kr ((-1 : Int), ())
  else
  nnK i5 fun i16 =>
  getK a3 i16 fun v17 =>
  bif (!(v17.2.2.1 == ((Int.tmod (IntKind.wrap .i64 ((IntKind.wrap .i64 ((IntKind.wrap .i64 ((IntKind.wrap .i64 ((IntKind.wrap .i64 (kq4 + (1 : Int))) + (1 : Int))) + (1 : Int))) + (1 : Int))) + (1 : Int))) (3 : Int)) == (0 : Int)))) then
   kr ((-1 : Int), ())
  else
  kn (a3, (IntKind.wrap .i64 ((IntKind.wrap .i64 ((IntKind.wrap .i64 ((IntKind.wrap .i64 ((IntKind.wrap .i64 ((IntKind.wrap .i64 (kq4 + (1 : Int))) + (1 : Int))) + (1 : Int))) + (1 : Int))) + (1 : Int))) + (1 : Int))), (IntKind.wrap .i64 (i5 + (1 : Int))), ())
 else
 kx (kq4, ())
noncomputable def laws_heldEntryS_l0 (x : (List DEntry) × Int × Int × Unit) : Option (((List DEntry) × Int × Int × Unit) ⊕ ((Int × Unit) ⊕ (Int × Unit))) :=
  laws_heldEntryS_l0K x.1 x.2.1 x.2.2.1 (fun y => some (.inl y)) (fun a => some (.inr (.inl a))) (fun b => some (.inr (.inr b)))
theorem laws_heldEntryS_l0_eq {γ : Type} (a3 : (List DEntry)) (kq4 : Int) (i5 : Int) (kn : (List DEntry) × Int × Int × Unit → Option γ) (kx : Int × Unit → Option γ) (kr : Int × Unit → Option γ) : laws_heldEntryS_l0K a3 kq4 i5 kn kx kr = (laws_heldEntryS_l0 (a3, kq4, i5, ())).bind fun r => sum3K r kn kx kr := by
  simp only [laws_heldEntryS_l0K, laws_heldEntryS_l0, B0, B1, B2, B3, B4, B5, B6, B7, B8, C1, C2, C3, C4, C5]
noncomputable def laws_heldEntrySK {γ : Type} (a1 : (List DEntry)) (kq2 : Int) (k : Int → Option γ) : Option γ :=
 (loopF laws_heldEntryS_l0 (a1, kq2, (0 : Int), ())).bind fun q => endK q (fun z18 =>
  k z18.1) (fun z19 =>
  k z19.1)
noncomputable def laws_heldEntryS (a1 : (List DEntry)) (kq2 : Int) : Option (Int) :=
  laws_heldEntrySK a1 kq2 some
theorem laws_heldEntryS_eq {γ : Type} (a1 : (List DEntry)) (kq2 : Int) (k : Int → Option γ) : laws_heldEntrySK a1 kq2 k = (laws_heldEntryS a1 kq2).bind k := by
  simp only [laws_heldEntrySK, laws_heldEntryS, B0, B1, B2, B3, B4, B5, B6, B7, B8, C1, C2, C3, C4, C5]

/-! loop.example/capkernel/laws.heldIntS -/
noncomputable def laws_heldIntS_l0K {γ : Type} (a3 : (List Int)) (kq4 : Int) (i5 : Int) (kn : (List Int) × Int × Int × Unit → Option γ) (kx : Int × Unit → Option γ) (kr : Int × Unit → Option γ) : Option γ :=
 bif decide (i5 < (a3.length : Int)) then
  nnK i5 fun i6 =>
  getK a3 i6 fun v7 =>
  bif (v7 != kq4) then
   kr ((-1 : Int), ())
  else
  kn (a3, (IntKind.wrap .i64 (kq4 + (1 : Int))), (IntKind.wrap .i64 (i5 + (1 : Int))), ())
 else
 kx (kq4, ())
noncomputable def laws_heldIntS_l0 (x : (List Int) × Int × Int × Unit) : Option (((List Int) × Int × Int × Unit) ⊕ ((Int × Unit) ⊕ (Int × Unit))) :=
  laws_heldIntS_l0K x.1 x.2.1 x.2.2.1 (fun y => some (.inl y)) (fun a => some (.inr (.inl a))) (fun b => some (.inr (.inr b)))
theorem laws_heldIntS_l0_eq {γ : Type} (a3 : (List Int)) (kq4 : Int) (i5 : Int) (kn : (List Int) × Int × Int × Unit → Option γ) (kx : Int × Unit → Option γ) (kr : Int × Unit → Option γ) : laws_heldIntS_l0K a3 kq4 i5 kn kx kr = (laws_heldIntS_l0 (a3, kq4, i5, ())).bind fun r => sum3K r kn kx kr := by
  simp only [laws_heldIntS_l0K, laws_heldIntS_l0, B0, B1, B2, B3, B4, B5, B6, B7, B8, C1, C2, C3, C4, C5]
noncomputable def laws_heldIntSK {γ : Type} (a1 : (List Int)) (kq2 : Int) (k : Int → Option γ) : Option γ :=
 (loopF laws_heldIntS_l0 (a1, kq2, (0 : Int), ())).bind fun q => endK q (fun z8 =>
  k z8.1) (fun z9 =>
  k z9.1)
noncomputable def laws_heldIntS (a1 : (List Int)) (kq2 : Int) : Option (Int) :=
  laws_heldIntSK a1 kq2 some
theorem laws_heldIntS_eq {γ : Type} (a1 : (List Int)) (kq2 : Int) (k : Int → Option γ) : laws_heldIntSK a1 kq2 k = (laws_heldIntS a1 kq2).bind k := by
  simp only [laws_heldIntSK, laws_heldIntS, B0, B1, B2, B3, B4, B5, B6, B7, B8, C1, C2, C3, C4, C5]

/-! loop.example/capkernel/laws.heldKernel -/
noncomputable def laws_heldKernelK {γ : Type} (a1 : DKernel) (kq2 : Int) (k : Int → Option γ) : Option γ :=
 (laws_heldEntryS a1.2.1 kq2).bind fun r3 =>
 bif decide (r3 < (0 : Int)) then
  k (-1 : Int)
 else
 (laws_heldIntS a1.2.2.1 r3).bind fun r4 =>
 bif decide (r4 < (0 : Int)) then
  k (-1 : Int)
 else
 k r4
noncomputable def laws_heldKernel (a1 : DKernel) (kq2 : Int) : Option (Int) :=
  laws_heldKernelK a1 kq2 some
theorem laws_heldKernel_eq {γ : Type} (a1 : DKernel) (kq2 : Int) (k : Int → Option γ) : laws_heldKernelK a1 kq2 k = (laws_heldKernel a1 kq2).bind k := by
  simp only [laws_heldKernelK, laws_heldKernel, B0, B1, B2, B3, B4, B5, B6, B7, B8, C1, C2, C3, C4, C5]

/-! loop.example/capkernel/laws.FnExactNewKernel -/
noncomputable def laws_FnExactNewKernelK {γ : Type} (aBits1 : Int) (aPlaces2 : Int) (k : Bool → Option γ) : Option γ :=
 (spec_NewKernel aBits1 aPlaces2).bind fun r3 =>
 (impl_NewKernel aBits1 aPlaces2).bind fun r4 =>
 (laws_eqKernel ((r4.1, r4.2.1, r4.2.2.1, ()), r4.2.2.2.2.1, r4.2.2.2.2.2, r4.2.2.2.1, ()) ((r3.1, r3.2.1, r3.2.2.1, ()), r3.2.2.2.2.1, r3.2.2.2.2.2, r3.2.2.2.1, ())).bind fun r5 =>
 bif (!r5) then
  k false
 else
 (laws_markKernel r4.1 r4.2.1 r4.2.2.1 r4.2.2.2.1 (1 : Int) r4.2.2.2.2.1 r4.2.2.2.2.2).bind fun r6 =>
 (laws_heldKernel ((r4.1, r4.2.1, r4.2.2.1, ()), r6.2.1, r6.2.2, r4.2.2.2.1, ()) (1 : Int)).bind fun r7 =>
 bif decide (r7 < (0 : Int)) then
  k false
 else
 bif (r7 != r6.1) then
  k false
 else
 (impl_NewKernel aBits1 aPlaces2).bind fun r8 =>
 (laws_eqKernel ((r8.1, r8.2.1, r8.2.2.1, ()), r8.2.2.2.2.1, r8.2.2.2.2.2, r8.2.2.2.1, ()) ((r3.1, r3.2.1, r3.2.2.1, ()), r3.2.2.2.2.1, r3.2.2.2.2.2, r3.2.2.2.1, ())).bind fun r9 =>
 bif (!r9) then
  k false
 else
 (laws_heldKernel ((r4.1, r4.2.1, r4.2.2.1, ()), r6.2.1, r6.2.2, r4.2.2.2.1, ()) (1 : Int)).bind fun r10 =>
 bif decide (r10 < (0 : Int)) then
  k false
 else
 bif (r10 != r6.1) then
  k false
 else
 k true
noncomputable def laws_FnExactNewKernel (aBits1 : Int) (aPlaces2 : Int) : Option (Bool) :=
  laws_FnExactNewKernelK aBits1 aPlaces2 some
theorem laws_FnExactNewKernel_eq {γ : Type} (aBits1 : Int) (aPlaces2 : Int) (k : Bool → Option γ) : laws_FnExactNewKernelK aBits1 aPlaces2 k = (laws_FnExactNewKernel aBits1 aPlaces2).bind k := by
  simp only [laws_FnExactNewKernelK, laws_FnExactNewKernel, B0, B1, B2, B3, B4, B5, B6, B7, B8, C1, C2, C3, C4, C5]

/-! loop.example/capkernel/spec.DrawSysDelete -/
noncomputable def spec_DrawSysDeleteK {γ : Type} (code1 : (List Int)) (k : Int × Int × Int × Int × Int × (List DEntry) × (List Int) → Option γ) : Option γ :=
 (spec_l20Open code1).bind fun r2 =>
 (spec_l20Kernel (14 : Int) r2).bind fun r3 =>
 (spec_l20Site r3.1 r3.2.1 r3.2.2.1 r3.2.2.2.1 r3.2.2.2.2.1 r3.2.2.2.2.2.1 r3.2.2.2.2.2.2).bind fun r4 =>
 k (r3.1, r3.2.1, r3.2.2.1, r3.2.2.2.1, r4.1, r4.2.2.1, r4.2.2.2)
noncomputable def spec_DrawSysDelete (code1 : (List Int)) : Option (Int × Int × Int × Int × Int × (List DEntry) × (List Int)) :=
  spec_DrawSysDeleteK code1 some
theorem spec_DrawSysDelete_eq {γ : Type} (code1 : (List Int)) (k : Int × Int × Int × Int × Int × (List DEntry) × (List Int) → Option γ) : spec_DrawSysDeleteK code1 k = (spec_DrawSysDelete code1).bind k := by
  simp only [spec_DrawSysDeleteK, spec_DrawSysDelete, B0, B1, B2, B3, B4, B5, B6, B7, B8, C1, C2, C3, C4, C5]

/-! loop.example/capkernel/spec.DrawSysRevoke -/
noncomputable def spec_DrawSysRevokeK {γ : Type} (code1 : (List Int)) (k : Int × Int × Int × Int × Int × (List DEntry) × (List Int) → Option γ) : Option γ :=
 (spec_DrawSysDelete code1).bind fun r2 =>
 k (r2.1, r2.2.1, r2.2.2.1, r2.2.2.2.1, r2.2.2.2.2.1, r2.2.2.2.2.2.1, r2.2.2.2.2.2.2)
noncomputable def spec_DrawSysRevoke (code1 : (List Int)) : Option (Int × Int × Int × Int × Int × (List DEntry) × (List Int)) :=
  spec_DrawSysRevokeK code1 some
theorem spec_DrawSysRevoke_eq {γ : Type} (code1 : (List Int)) (k : Int × Int × Int × Int × Int × (List DEntry) × (List Int) → Option γ) : spec_DrawSysRevokeK code1 k = (spec_DrawSysRevoke code1).bind k := by
  simp only [spec_DrawSysRevokeK, spec_DrawSysRevoke, B0, B1, B2, B3, B4, B5, B6, B7, B8, C1, C2, C3, C4, C5]

/-! loop.example/capkernel/impl.descendants -/
noncomputable def impl_descendants_l0K {γ : Type} (d5 : (List DEntry)) (i6 : Int) (b7 : (List Bool)) (b8 : (List Int)) (kn : (List DEntry) × Int × (List Bool) × (List Int) × Unit → Option γ) (kx : (List Int) × Unit → Option γ) : Option γ :=
 bif decide (i6 < (d5.length : Int)) then
  nnK i6 fun i9 =>
  getK d5 i9 fun v10 =>
  bif (!v10.2.2.1) then
   nnK i6 fun i11 =>
   getK d5 i11 fun v12 =>
   bif decide (v12.2.1 ≥ (0 : Int)) then
    nnK i6 fun i13 =>
    getK d5 i13 fun v14 =>
    nnK v14.2.1 fun i15 =>
    chk (i15 < b7.length) <|
    getK b7 i15 fun v16 =>
    bif v16 then
     nnK i6 fun i17 =>
     chk (i17 < b7.length) <|
     getK b7 i17 fun y18 =>
     chk ((b8.length + 1) ≤ bigRow) <|
     kn (d5, (IntKind.wrap .i64 (i6 + (1 : Int))), (b7.set i17 true), (b8 ++ [i6]), ())
    else
    kn (d5, (IntKind.wrap .i64 (i6 + (1 : Int))), b7, b8, ())
   else
   kn (d5, (IntKind.wrap .i64 (i6 + (1 : Int))), b7, b8, ())
  else
  kn (d5, (IntKind.wrap .i64 (i6 + (1 : Int))), b7, b8, ())
 else
 kx (b8, ())
noncomputable def impl_descendants_l0 (x : (List DEntry) × Int × (List Bool) × (List Int) × Unit) : Option (((List DEntry) × Int × (List Bool) × (List Int) × Unit) ⊕ ((List Int) × Unit)) :=
  impl_descendants_l0K x.1 x.2.1 x.2.2.1 x.2.2.2.1 (fun y => some (.inl y)) (fun a => some (.inr a))
theorem impl_descendants_l0_eq {γ : Type} (d5 : (List DEntry)) (i6 : Int) (b7 : (List Bool)) (b8 : (List Int)) (kn : (List DEntry) × Int × (List Bool) × (List Int) × Unit → Option γ) (kx : (List Int) × Unit → Option γ) : impl_descendants_l0K d5 i6 b7 b8 kn kx = (impl_descendants_l0 (d5, i6, b7, b8, ())).bind fun r => sum2K r kn kx := by
  simp only [impl_descendants_l0K, impl_descendants_l0, B0, B1, B2, B3, B4, B5, B6, B7, B8, C1, C2, C3, C4, C5]
noncomputable def impl_descendantsK {γ : Type} (d1 : (List DEntry)) (n2 : Int) (k : (List Int) → Option γ) : Option γ :=
 chk (d1.length ≤ bigRow) <|
 nnK n2 fun i3 =>
 chk (i3 < (List.replicate d1.length false).length) <|
 getK (List.replicate d1.length false) i3 fun y4 =>
 (loopF impl_descendants_l0 (d1, (IntKind.wrap .i64 (n2 + (1 : Int))), ((List.replicate d1.length false).set i3 true), [], ())).bind fun z19 =>
 (slices_Clip_int z19.1).bind fun r20 =>
 k r20
noncomputable def impl_descendants (d1 : (List DEntry)) (n2 : Int) : Option ((List Int)) :=
  impl_descendantsK d1 n2 some
theorem impl_descendants_eq {γ : Type} (d1 : (List DEntry)) (n2 : Int) (k : (List Int) → Option γ) : impl_descendantsK d1 n2 k = (impl_descendants d1 n2).bind k := by
  simp only [impl_descendantsK, impl_descendants, B0, B1, B2, B3, B4, B5, B6, B7, B8, C1, C2, C3, C4, C5]

/-! loop.example/capkernel/impl.removed -/
noncomputable def impl_removed_l0K {γ : Type} (a4 : (List Int)) (a5 : Int) (a6 : Int) (b7 : (List DEntry)) (kn : (List Int) × Int × Int × (List DEntry) × Unit → Option γ) (kx : (List DEntry) × Unit → Option γ) : Option γ :=
 bif decide (a6 < a5) then
  nnK a6 fun i8 =>
  getK a4 i8 fun v9 =>
  nnK v9 fun i10 =>
  chk (i10 < b7.length) <|
  getK b7 i10 fun y11 =>
  kn (a4, a5, (IntKind.wrap .i64 (a6 + (1 : Int))), (b7.set i10 (y11.1, y11.2.1, true, ())), ())
 else
 kx (b7, ())
noncomputable def impl_removed_l0 (x : (List Int) × Int × Int × (List DEntry) × Unit) : Option (((List Int) × Int × Int × (List DEntry) × Unit) ⊕ ((List DEntry) × Unit)) :=
  impl_removed_l0K x.1 x.2.1 x.2.2.1 x.2.2.2.1 (fun y => some (.inl y)) (fun a => some (.inr a))
theorem impl_removed_l0_eq {γ : Type} (a4 : (List Int)) (a5 : Int) (a6 : Int) (b7 : (List DEntry)) (kn : (List Int) × Int × Int × (List DEntry) × Unit → Option γ) (kx : (List DEntry) × Unit → Option γ) : impl_removed_l0K a4 a5 a6 b7 kn kx = (impl_removed_l0 (a4, a5, a6, b7, ())).bind fun r => sum2K r kn kx := by
  simp only [impl_removed_l0K, impl_removed_l0, B0, B1, B2, B3, B4, B5, B6, B7, B8, C1, C2, C3, C4, C5]
noncomputable def impl_removedK {γ : Type} (d1 : (List DEntry)) (list2 : (List Int)) (k : (List DEntry) → Option γ) : Option γ :=
 (impl_clone_Entry d1).bind fun r3 =>
 (loopF impl_removed_l0 (list2, (list2.length : Int), (0 : Int), r3, ())).bind fun z12 =>
 k z12.1
noncomputable def impl_removed (d1 : (List DEntry)) (list2 : (List Int)) : Option ((List DEntry)) :=
  impl_removedK d1 list2 some
theorem impl_removed_eq {γ : Type} (d1 : (List DEntry)) (list2 : (List Int)) (k : (List DEntry) → Option γ) : impl_removedK d1 list2 k = (impl_removed d1 list2).bind k := by
  simp only [impl_removedK, impl_removed, B0, B1, B2, B3, B4, B5, B6, B7, B8, C1, C2, C3, C4, C5]

/-! loop.example/capkernel/impl.RevokeCap -/
noncomputable def impl_RevokeCapK {γ : Type} (d1 : (List DEntry)) (n2 : Int) (k : (List DEntry) → Option γ) : Option γ :=
 (impl_alive d1 n2).bind fun r3 =>
 bif (!r3) then
  k []
 else
 (impl_descendants d1 n2).bind fun r4 =>
 (impl_removed d1 r4).bind fun r5 =>
 k r5
noncomputable def impl_RevokeCap (d1 : (List DEntry)) (n2 : Int) : Option ((List DEntry)) :=
  impl_RevokeCapK d1 n2 some
theorem impl_RevokeCap_eq {γ : Type} (d1 : (List DEntry)) (n2 : Int) (k : (List DEntry) → Option γ) : impl_RevokeCapK d1 n2 k = (impl_RevokeCap d1 n2).bind k := by
  simp only [impl_RevokeCapK, impl_RevokeCap, B0, B1, B2, B3, B4, B5, B6, B7, B8, C1, C2, C3, C4, C5]

/-! (*loop.example/capkernel/impl.Kernel).clear -/
noncomputable def impl_Kernel_clear_l0K {γ : Type} (a12 : Int) (a13 : Int) (b14 : Int) (b15 : Int) (b16 : Int) (b17 : Int) (b18 : (List DEntry)) (b19 : (List Int)) (b20 : Int) (b21 : Int) (b22 : Int) (b23 : (List DEntry)) (b24 : Int) (kn : Int × Int × Int × Int × Int × Int × (List DEntry) × (List Int) × Int × Int × Int × (List DEntry) × Int × Unit → Option γ) (kx : Int × Int × Int × Int × (List DEntry) × (List Int) × Int × Int × Int × (List DEntry) × Int × Unit → Option γ) : Option γ :=
 bif decide (a13 < a12) then
  nnK a13 fun i25 =>
  chk (i25 < b19.length) <|
  getK b19 i25 fun v26 =>
  bif decide (v26 ≥ (0 : Int)) then
   nnK v26 fun i27 =>
   getK b23 i27 fun v28 =>
   bif v28.2.2.1 then
    nnK a13 fun i29 =>
    chk (i29 < b19.length) <|
    getK b19 i29 fun y30 =>
    kn (a12, (IntKind.wrap .i64 (a13 + (1 : Int))), b14, b15, b16, b17, b18, (b19.set i29 (-1 : Int)), b20, b21, b22, b23, b24, ())
   else
   kn (a12, (IntKind.wrap .i64 (a13 + (1 : Int))), b14, b15, b16, b17, b18, b19, b20, b21, b22, b23, b24, ())
  else
  kn (a12, (IntKind.wrap .i64 (a13 + (1 : Int))), b14, b15, b16, b17, b18, b19, b20, b21, b22, b23, b24, ())
 else
 kx (b14, b15, b16, b17, b18, b19, b20, b21, b22, b23, b24, ())
noncomputable def impl_Kernel_clear_l0 (x : Int × Int × Int × Int × Int × Int × (List DEntry) × (List Int) × Int × Int × Int × (List DEntry) × Int × Unit) : Option ((Int × Int × Int × Int × Int × Int × (List DEntry) × (List Int) × Int × Int × Int × (List DEntry) × Int × Unit) ⊕ (Int × Int × Int × Int × (List DEntry) × (List Int) × Int × Int × Int × (List DEntry) × Int × Unit)) :=
  impl_Kernel_clear_l0K x.1 x.2.1 x.2.2.1 x.2.2.2.1 x.2.2.2.2.1 x.2.2.2.2.2.1 x.2.2.2.2.2.2.1 x.2.2.2.2.2.2.2.1 x.2.2.2.2.2.2.2.2.1 x.2.2.2.2.2.2.2.2.2.1 x.2.2.2.2.2.2.2.2.2.2.1 x.2.2.2.2.2.2.2.2.2.2.2.1 x.2.2.2.2.2.2.2.2.2.2.2.2.1 (fun y => some (.inl y)) (fun a => some (.inr a))
theorem impl_Kernel_clear_l0_eq {γ : Type} (a12 : Int) (a13 : Int) (b14 : Int) (b15 : Int) (b16 : Int) (b17 : Int) (b18 : (List DEntry)) (b19 : (List Int)) (b20 : Int) (b21 : Int) (b22 : Int) (b23 : (List DEntry)) (b24 : Int) (kn : Int × Int × Int × Int × Int × Int × (List DEntry) × (List Int) × Int × Int × Int × (List DEntry) × Int × Unit → Option γ) (kx : Int × Int × Int × Int × (List DEntry) × (List Int) × Int × Int × Int × (List DEntry) × Int × Unit → Option γ) : impl_Kernel_clear_l0K a12 a13 b14 b15 b16 b17 b18 b19 b20 b21 b22 b23 b24 kn kx = (impl_Kernel_clear_l0 (a12, a13, b14, b15, b16, b17, b18, b19, b20, b21, b22, b23, b24, ())).bind fun r => sum2K r kn kx := by
  simp only [impl_Kernel_clear_l0K, impl_Kernel_clear_l0, B0, B1, B2, B3, B4, B5, B6, B7, B8, C1, C2, C3, C4, C5]
noncomputable def impl_Kernel_clearK {γ : Type} (b1 : Int) (b2 : Int) (b3 : Int) (b4 : Int) (b5 : (List DEntry)) (b6 : (List Int)) (b7 : Int) (b8 : Int) (b9 : Int) (b10 : (List DEntry)) (b11 : Int) (k : Int × Int × Int × Int × (List DEntry) × (List Int) × Int × Int × Int × (List DEntry) × Int → Option γ) : Option γ :=
 (loopF impl_Kernel_clear_l0 ((b6.length : Int), (0 : Int), b1, b2, b3, b4, b5, b6, b7, b8, b9, b10, b11, ())).bind fun z31 =>
 k (z31.1, z31.2.1, z31.2.2.1, z31.2.2.2.1, z31.2.2.2.2.1, z31.2.2.2.2.2.1, z31.2.2.2.2.2.2.1, z31.2.2.2.2.2.2.2.1, z31.2.2.2.2.2.2.2.2.1, z31.2.2.2.2.2.2.2.2.2.1, z31.2.2.2.2.2.2.2.2.2.2.1)
noncomputable def impl_Kernel_clear (b1 : Int) (b2 : Int) (b3 : Int) (b4 : Int) (b5 : (List DEntry)) (b6 : (List Int)) (b7 : Int) (b8 : Int) (b9 : Int) (b10 : (List DEntry)) (b11 : Int) : Option (Int × Int × Int × Int × (List DEntry) × (List Int) × Int × Int × Int × (List DEntry) × Int) :=
  impl_Kernel_clearK b1 b2 b3 b4 b5 b6 b7 b8 b9 b10 b11 some
theorem impl_Kernel_clear_eq {γ : Type} (b1 : Int) (b2 : Int) (b3 : Int) (b4 : Int) (b5 : (List DEntry)) (b6 : (List Int)) (b7 : Int) (b8 : Int) (b9 : Int) (b10 : (List DEntry)) (b11 : Int) (k : Int × Int × Int × Int × (List DEntry) × (List Int) × Int × Int × Int × (List DEntry) × Int → Option γ) : impl_Kernel_clearK b1 b2 b3 b4 b5 b6 b7 b8 b9 b10 b11 k = (impl_Kernel_clear b1 b2 b3 b4 b5 b6 b7 b8 b9 b10 b11).bind k := by
  simp only [impl_Kernel_clearK, impl_Kernel_clear, B0, B1, B2, B3, B4, B5, B6, B7, B8, C1, C2, C3, C4, C5]

/-! (*loop.example/capkernel/impl.Kernel).clear -/
noncomputable def impl_Kernel_clear_v2_l0K {γ : Type} (a12 : Int) (a13 : Int) (b14 : Int) (b15 : Int) (b16 : Int) (b17 : Int) (b18 : (List DEntry)) (b19 : (List Int)) (b20 : Int) (b21 : Int) (b22 : Int) (b23 : Int) (b24 : (List DEntry)) (kn : Int × Int × Int × Int × Int × Int × (List DEntry) × (List Int) × Int × Int × Int × Int × (List DEntry) × Unit → Option γ) (kx : Int × Int × Int × Int × (List DEntry) × (List Int) × Int × Int × Int × Int × (List DEntry) × Unit → Option γ) : Option γ :=
 bif decide (a13 < a12) then
  nnK a13 fun i25 =>
  chk (i25 < b19.length) <|
  getK b19 i25 fun v26 =>
  bif decide (v26 ≥ (0 : Int)) then
   nnK v26 fun i27 =>
   chk (i27 < b24.length) <|
   getK b24 i27 fun v28 =>
   bif v28.2.2.1 then
    nnK a13 fun i29 =>
    chk (i29 < b19.length) <|
    getK b19 i29 fun y30 =>
    kn (a12, (IntKind.wrap .i64 (a13 + (1 : Int))), b14, b15, b16, b17, b18, (b19.set i29 (-1 : Int)), b20, b21, b22, b23, b24, ())
   else
   kn (a12, (IntKind.wrap .i64 (a13 + (1 : Int))), b14, b15, b16, b17, b18, b19, b20, b21, b22, b23, b24, ())
  else
  kn (a12, (IntKind.wrap .i64 (a13 + (1 : Int))), b14, b15, b16, b17, b18, b19, b20, b21, b22, b23, b24, ())
 else
 kx (b14, b15, b16, b17, b18, b19, b20, b21, b22, b23, b24, ())
noncomputable def impl_Kernel_clear_v2_l0 (x : Int × Int × Int × Int × Int × Int × (List DEntry) × (List Int) × Int × Int × Int × Int × (List DEntry) × Unit) : Option ((Int × Int × Int × Int × Int × Int × (List DEntry) × (List Int) × Int × Int × Int × Int × (List DEntry) × Unit) ⊕ (Int × Int × Int × Int × (List DEntry) × (List Int) × Int × Int × Int × Int × (List DEntry) × Unit)) :=
  impl_Kernel_clear_v2_l0K x.1 x.2.1 x.2.2.1 x.2.2.2.1 x.2.2.2.2.1 x.2.2.2.2.2.1 x.2.2.2.2.2.2.1 x.2.2.2.2.2.2.2.1 x.2.2.2.2.2.2.2.2.1 x.2.2.2.2.2.2.2.2.2.1 x.2.2.2.2.2.2.2.2.2.2.1 x.2.2.2.2.2.2.2.2.2.2.2.1 x.2.2.2.2.2.2.2.2.2.2.2.2.1 (fun y => some (.inl y)) (fun a => some (.inr a))
theorem impl_Kernel_clear_v2_l0_eq {γ : Type} (a12 : Int) (a13 : Int) (b14 : Int) (b15 : Int) (b16 : Int) (b17 : Int) (b18 : (List DEntry)) (b19 : (List Int)) (b20 : Int) (b21 : Int) (b22 : Int) (b23 : Int) (b24 : (List DEntry)) (kn : Int × Int × Int × Int × Int × Int × (List DEntry) × (List Int) × Int × Int × Int × Int × (List DEntry) × Unit → Option γ) (kx : Int × Int × Int × Int × (List DEntry) × (List Int) × Int × Int × Int × Int × (List DEntry) × Unit → Option γ) : impl_Kernel_clear_v2_l0K a12 a13 b14 b15 b16 b17 b18 b19 b20 b21 b22 b23 b24 kn kx = (impl_Kernel_clear_v2_l0 (a12, a13, b14, b15, b16, b17, b18, b19, b20, b21, b22, b23, b24, ())).bind fun r => sum2K r kn kx := by
  simp only [impl_Kernel_clear_v2_l0K, impl_Kernel_clear_v2_l0, B0, B1, B2, B3, B4, B5, B6, B7, B8, C1, C2, C3, C4, C5]
noncomputable def impl_Kernel_clear_v2K {γ : Type} (b1 : Int) (b2 : Int) (b3 : Int) (b4 : Int) (b5 : (List DEntry)) (b6 : (List Int)) (b7 : Int) (b8 : Int) (b9 : Int) (b10 : Int) (b11 : (List DEntry)) (k : Int × Int × Int × Int × (List DEntry) × (List Int) × Int × Int × Int × Int × (List DEntry) → Option γ) : Option γ :=
 (loopF impl_Kernel_clear_v2_l0 ((b6.length : Int), (0 : Int), b1, b2, b3, b4, b5, b6, b7, b8, b9, b10, b11, ())).bind fun z31 =>
 k (z31.1, z31.2.1, z31.2.2.1, z31.2.2.2.1, z31.2.2.2.2.1, z31.2.2.2.2.2.1, z31.2.2.2.2.2.2.1, z31.2.2.2.2.2.2.2.1, z31.2.2.2.2.2.2.2.2.1, z31.2.2.2.2.2.2.2.2.2.1, z31.2.2.2.2.2.2.2.2.2.2.1)
noncomputable def impl_Kernel_clear_v2 (b1 : Int) (b2 : Int) (b3 : Int) (b4 : Int) (b5 : (List DEntry)) (b6 : (List Int)) (b7 : Int) (b8 : Int) (b9 : Int) (b10 : Int) (b11 : (List DEntry)) : Option (Int × Int × Int × Int × (List DEntry) × (List Int) × Int × Int × Int × Int × (List DEntry)) :=
  impl_Kernel_clear_v2K b1 b2 b3 b4 b5 b6 b7 b8 b9 b10 b11 some
theorem impl_Kernel_clear_v2_eq {γ : Type} (b1 : Int) (b2 : Int) (b3 : Int) (b4 : Int) (b5 : (List DEntry)) (b6 : (List Int)) (b7 : Int) (b8 : Int) (b9 : Int) (b10 : Int) (b11 : (List DEntry)) (k : Int × Int × Int × Int × (List DEntry) × (List Int) × Int × Int × Int × Int × (List DEntry) → Option γ) : impl_Kernel_clear_v2K b1 b2 b3 b4 b5 b6 b7 b8 b9 b10 b11 k = (impl_Kernel_clear_v2 b1 b2 b3 b4 b5 b6 b7 b8 b9 b10 b11).bind k := by
  simp only [impl_Kernel_clear_v2K, impl_Kernel_clear_v2, B0, B1, B2, B3, B4, B5, B6, B7, B8, C1, C2, C3, C4, C5]

/-! loop.example/capkernel/impl.removing -/
noncomputable def impl_removingK {γ : Type} (kq1 : DKernel) (slot2 : Int) (k : Int × Int × Int × Int × Int × (List DEntry) × (List Int) → Option γ) : Option γ :=
 (impl_KernelValid ((kq1.1.1, kq1.1.2.1, kq1.1.2.2.1, ()), kq1.2.1, kq1.2.2.1, kq1.2.2.2.1, ())).bind fun r3 =>
 bif (!r3) then
  k ((0 : Int), (0 : Int), (0 : Int), (0 : Int), (3 : Int), [], [])
 else
 (impl_Kernel_copyOf ((kq1.1.1, kq1.1.2.1, kq1.1.2.2.1, ()), kq1.2.1, kq1.2.2.1, kq1.2.2.2.1, ())).bind fun r4 =>
 (impl_Kernel_has ((kq1.1.1, kq1.1.2.1, kq1.1.2.2.1, ()), kq1.2.1, kq1.2.2.1, kq1.2.2.2.1, ()) slot2).bind fun r5 =>
 bif (!r5) then
  k (r4.1, r4.2.1, r4.2.2.1, r4.2.2.2.1, (1 : Int), r4.2.2.2.2.1, r4.2.2.2.2.2)
 else
 nnK slot2 fun i6 =>
 getK kq1.2.2.1 i6 fun v7 =>
 (impl_RevokeCap kq1.2.1 v7).bind fun r8 =>
 (impl_Kernel_clear_v2 (0 : Int) (0 : Int) (0 : Int) (0 : Int) r4.2.2.2.2.1 r4.2.2.2.2.2 r4.1 r4.2.1 r4.2.2.1 r4.2.2.2.1 r8).bind fun r9 =>
 k (r9.2.2.2.2.2.2.1, r9.2.2.2.2.2.2.2.1, r9.2.2.2.2.2.2.2.2.1, r9.2.2.2.2.2.2.2.2.2.1, (0 : Int), r9.2.2.2.2.2.2.2.2.2.2, r9.2.2.2.2.2.1)
noncomputable def impl_removing (kq1 : DKernel) (slot2 : Int) : Option (Int × Int × Int × Int × Int × (List DEntry) × (List Int)) :=
  impl_removingK kq1 slot2 some
theorem impl_removing_eq {γ : Type} (kq1 : DKernel) (slot2 : Int) (k : Int × Int × Int × Int × Int × (List DEntry) × (List Int) → Option γ) : impl_removingK kq1 slot2 k = (impl_removing kq1 slot2).bind k := by
  simp only [impl_removingK, impl_removing, B0, B1, B2, B3, B4, B5, B6, B7, B8, C1, C2, C3, C4, C5]

/-! loop.example/capkernel/impl.SysRevoke -/
noncomputable def impl_SysRevokeK {γ : Type} (kq1 : DKernel) (slot2 : Int) (k : Int × Int × Int × Int × Int × (List DEntry) × (List Int) → Option γ) : Option γ :=
 (impl_removing ((kq1.1.1, kq1.1.2.1, kq1.1.2.2.1, ()), kq1.2.1, kq1.2.2.1, kq1.2.2.2.1, ()) slot2).bind fun r3 =>
 k (r3.1, r3.2.1, r3.2.2.1, r3.2.2.2.1, r3.2.2.2.2.1, r3.2.2.2.2.2.1, r3.2.2.2.2.2.2)
noncomputable def impl_SysRevoke (kq1 : DKernel) (slot2 : Int) : Option (Int × Int × Int × Int × Int × (List DEntry) × (List Int)) :=
  impl_SysRevokeK kq1 slot2 some
theorem impl_SysRevoke_eq {γ : Type} (kq1 : DKernel) (slot2 : Int) (k : Int × Int × Int × Int × Int × (List DEntry) × (List Int) → Option γ) : impl_SysRevokeK kq1 slot2 k = (impl_SysRevoke kq1 slot2).bind k := by
  simp only [impl_SysRevokeK, impl_SysRevoke, B0, B1, B2, B3, B4, B5, B6, B7, B8, C1, C2, C3, C4, C5]

/-! loop.example/capkernel/impl.RemoveCap -/
noncomputable def impl_RemoveCap_l0K {γ : Type} (d7 : (List DEntry)) (n8 : Int) (a9 : (List DEntry)) (a10 : Int) (a11 : Int) (b12 : (List DEntry)) (kn : (List DEntry) × Int × (List DEntry) × Int × Int × (List DEntry) × Unit → Option γ) (kx : (List DEntry) × Unit → Option γ) : Option γ :=
 bif decide (a11 < a10) then
  nnK a11 fun i13 =>
  getK a9 i13 fun v14 =>
  bif (v14.2.1 == n8) then
   bif (!v14.2.2.1) then
    nnK n8 fun i15 =>
    getK d7 i15 fun v16 =>
    nnK a11 fun i17 =>
    chk (i17 < b12.length) <|
    getK b12 i17 fun y18 =>
    kn (d7, n8, a9, a10, (IntKind.wrap .i64 (a11 + (1 : Int))), (b12.set i17 (y18.1, v16.2.1, y18.2.2.1, ())), ())
   else
   kn (d7, n8, a9, a10, (IntKind.wrap .i64 (a11 + (1 : Int))), b12, ())
  else
  kn (d7, n8, a9, a10, (IntKind.wrap .i64 (a11 + (1 : Int))), b12, ())
 else
 kx (b12, ())
noncomputable def impl_RemoveCap_l0 (x : (List DEntry) × Int × (List DEntry) × Int × Int × (List DEntry) × Unit) : Option (((List DEntry) × Int × (List DEntry) × Int × Int × (List DEntry) × Unit) ⊕ ((List DEntry) × Unit)) :=
  impl_RemoveCap_l0K x.1 x.2.1 x.2.2.1 x.2.2.2.1 x.2.2.2.2.1 x.2.2.2.2.2.1 (fun y => some (.inl y)) (fun a => some (.inr a))
theorem impl_RemoveCap_l0_eq {γ : Type} (d7 : (List DEntry)) (n8 : Int) (a9 : (List DEntry)) (a10 : Int) (a11 : Int) (b12 : (List DEntry)) (kn : (List DEntry) × Int × (List DEntry) × Int × Int × (List DEntry) × Unit → Option γ) (kx : (List DEntry) × Unit → Option γ) : impl_RemoveCap_l0K d7 n8 a9 a10 a11 b12 kn kx = (impl_RemoveCap_l0 (d7, n8, a9, a10, a11, b12, ())).bind fun r => sum2K r kn kx := by
  simp only [impl_RemoveCap_l0K, impl_RemoveCap_l0, B0, B1, B2, B3, B4, B5, B6, B7, B8, C1, C2, C3, C4, C5]
noncomputable def impl_RemoveCapK {γ : Type} (d1 : (List DEntry)) (n2 : Int) (k : (List DEntry) → Option γ) : Option γ :=
 (impl_alive d1 n2).bind fun r3 =>
 bif (!r3) then
  k []
 else
 (impl_clone_Entry d1).bind fun r4 =>
 nnK n2 fun i5 =>
 chk (i5 < r4.length) <|
 getK r4 i5 fun y6 =>
 (loopF impl_RemoveCap_l0 (d1, n2, d1, (d1.length : Int), (0 : Int), (r4.set i5 (y6.1, y6.2.1, true, ())), ())).bind fun z19 =>
 k z19.1
noncomputable def impl_RemoveCap (d1 : (List DEntry)) (n2 : Int) : Option ((List DEntry)) :=
  impl_RemoveCapK d1 n2 some
theorem impl_RemoveCap_eq {γ : Type} (d1 : (List DEntry)) (n2 : Int) (k : (List DEntry) → Option γ) : impl_RemoveCapK d1 n2 k = (impl_RemoveCap d1 n2).bind k := by
  simp only [impl_RemoveCapK, impl_RemoveCap, B0, B1, B2, B3, B4, B5, B6, B7, B8, C1, C2, C3, C4, C5]

/-! loop.example/capkernel/impl.removing -/
noncomputable def impl_removing_v2K {γ : Type} (kq1 : DKernel) (slot2 : Int) (k : Int × Int × Int × Int × Int × (List DEntry) × (List Int) → Option γ) : Option γ :=
 (impl_KernelValid ((kq1.1.1, kq1.1.2.1, kq1.1.2.2.1, ()), kq1.2.1, kq1.2.2.1, kq1.2.2.2.1, ())).bind fun r3 =>
 bif (!r3) then
  k ((0 : Int), (0 : Int), (0 : Int), (0 : Int), (3 : Int), [], [])
 else
 (impl_Kernel_copyOf ((kq1.1.1, kq1.1.2.1, kq1.1.2.2.1, ()), kq1.2.1, kq1.2.2.1, kq1.2.2.2.1, ())).bind fun r4 =>
 (impl_Kernel_has ((kq1.1.1, kq1.1.2.1, kq1.1.2.2.1, ()), kq1.2.1, kq1.2.2.1, kq1.2.2.2.1, ()) slot2).bind fun r5 =>
 bif (!r5) then
  k (r4.1, r4.2.1, r4.2.2.1, r4.2.2.2.1, (1 : Int), r4.2.2.2.2.1, r4.2.2.2.2.2)
 else
 nnK slot2 fun i6 =>
 getK kq1.2.2.1 i6 fun v7 =>
 (impl_RemoveCap kq1.2.1 v7).bind fun r8 =>
 (impl_Kernel_clear_v2 (0 : Int) (0 : Int) (0 : Int) (0 : Int) r4.2.2.2.2.1 r4.2.2.2.2.2 r4.1 r4.2.1 r4.2.2.1 r4.2.2.2.1 r8).bind fun r9 =>
 k (r9.2.2.2.2.2.2.1, r9.2.2.2.2.2.2.2.1, r9.2.2.2.2.2.2.2.2.1, r9.2.2.2.2.2.2.2.2.2.1, (0 : Int), r9.2.2.2.2.2.2.2.2.2.2, r9.2.2.2.2.2.1)
noncomputable def impl_removing_v2 (kq1 : DKernel) (slot2 : Int) : Option (Int × Int × Int × Int × Int × (List DEntry) × (List Int)) :=
  impl_removing_v2K kq1 slot2 some
theorem impl_removing_v2_eq {γ : Type} (kq1 : DKernel) (slot2 : Int) (k : Int × Int × Int × Int × Int × (List DEntry) × (List Int) → Option γ) : impl_removing_v2K kq1 slot2 k = (impl_removing_v2 kq1 slot2).bind k := by
  simp only [impl_removing_v2K, impl_removing_v2, B0, B1, B2, B3, B4, B5, B6, B7, B8, C1, C2, C3, C4, C5]

/-! loop.example/capkernel/impl.SysDelete -/
noncomputable def impl_SysDeleteK {γ : Type} (kq1 : DKernel) (slot2 : Int) (k : Int × Int × Int × Int × Int × (List DEntry) × (List Int) → Option γ) : Option γ :=
 (impl_removing_v2 ((kq1.1.1, kq1.1.2.1, kq1.1.2.2.1, ()), kq1.2.1, kq1.2.2.1, kq1.2.2.2.1, ()) slot2).bind fun r3 =>
 k (r3.1, r3.2.1, r3.2.2.1, r3.2.2.2.1, r3.2.2.2.2.1, r3.2.2.2.2.2.1, r3.2.2.2.2.2.2)
noncomputable def impl_SysDelete (kq1 : DKernel) (slot2 : Int) : Option (Int × Int × Int × Int × Int × (List DEntry) × (List Int)) :=
  impl_SysDeleteK kq1 slot2 some
theorem impl_SysDelete_eq {γ : Type} (kq1 : DKernel) (slot2 : Int) (k : Int × Int × Int × Int × Int × (List DEntry) × (List Int) → Option γ) : impl_SysDeleteK kq1 slot2 k = (impl_SysDelete kq1 slot2).bind k := by
  simp only [impl_SysDeleteK, impl_SysDelete, B0, B1, B2, B3, B4, B5, B6, B7, B8, C1, C2, C3, C4, C5]

/-! loop.example/capkernel/laws.FnKernelRevoke -/
noncomputable def laws_FnKernelRevoke_l0K {γ : Type} (slot15 : Int) (single16 : Bool) (j17 : Int) (b18 : Int) (b19 : Int) (b20 : Int) (b21 : (List DEntry)) (b22 : (List Int)) (b23 : Int) (b24 : Int) (b25 : Int) (b26 : Int) (b27 : (List DEntry)) (b28 : (List Int)) (b29 : Int) (b30 : DCap) (kn : Int × Bool × Int × Int × Int × Int × (List DEntry) × (List Int) × Int × Int × Int × Int × (List DEntry) × (List Int) × Int × DCap × Unit → Option γ) (kx : Int × Bool × Int × Int × Int × (List DEntry) × (List Int) × Int × DCap × Unit → Option γ) : Option γ :=
 bif decide (j17 < (b21.length : Int)) then
  nnK slot15 fun i31 =>
  getK b22 i31 fun v32 =>
  bif (j17 != v32) then
   nnK j17 fun i33 =>
   getK b21 i33 fun v34 =>
   bif (!v34.2.2.1) then
    nnK j17 fun i35 =>
    getK b21 i35 fun v36 =>
    bif decide (v36.2.1 < (0 : Int)) then
     nnK j17 fun i37 =>
     getK b21 i37 fun v38 =>
     bif (v38.1.2.1 == b30.2.1) then
      kn (slot15, false, (IntKind.wrap .i64 (j17 + (1 : Int))), b18, b19, b20, b21, b22, b23, b24, b25, b26, b27, b28, b29, b30, ())
     else
     kn (slot15, single16, (IntKind.wrap .i64 (j17 + (1 : Int))), b18, b19, b20, b21, b22, b23, b24, b25, b26, b27, b28, b29, b30, ())
    else
    kn (slot15, single16, (IntKind.wrap .i64 (j17 + (1 : Int))), b18, b19, b20, b21, b22, b23, b24, b25, b26, b27, b28, b29, b30, ())
   else
   kn (slot15, single16, (IntKind.wrap .i64 (j17 + (1 : Int))), b18, b19, b20, b21, b22, b23, b24, b25, b26, b27, b28, b29, b30, ())
  else
  kn (slot15, single16, (IntKind.wrap .i64 (j17 + (1 : Int))), b18, b19, b20, b21, b22, b23, b24, b25, b26, b27, b28, b29, b30, ())
 else
 kx (slot15, single16, b24, b25, b26, b27, b28, b29, b30, ())
noncomputable def laws_FnKernelRevoke_l0 (x : Int × Bool × Int × Int × Int × Int × (List DEntry) × (List Int) × Int × Int × Int × Int × (List DEntry) × (List Int) × Int × DCap × Unit) : Option ((Int × Bool × Int × Int × Int × Int × (List DEntry) × (List Int) × Int × Int × Int × Int × (List DEntry) × (List Int) × Int × DCap × Unit) ⊕ (Int × Bool × Int × Int × Int × (List DEntry) × (List Int) × Int × DCap × Unit)) :=
  laws_FnKernelRevoke_l0K x.1 x.2.1 x.2.2.1 x.2.2.2.1 x.2.2.2.2.1 x.2.2.2.2.2.1 x.2.2.2.2.2.2.1 x.2.2.2.2.2.2.2.1 x.2.2.2.2.2.2.2.2.1 x.2.2.2.2.2.2.2.2.2.1 x.2.2.2.2.2.2.2.2.2.2.1 x.2.2.2.2.2.2.2.2.2.2.2.1 x.2.2.2.2.2.2.2.2.2.2.2.2.1 x.2.2.2.2.2.2.2.2.2.2.2.2.2.1 x.2.2.2.2.2.2.2.2.2.2.2.2.2.2.1 x.2.2.2.2.2.2.2.2.2.2.2.2.2.2.2.1 (fun y => some (.inl y)) (fun a => some (.inr a))
theorem laws_FnKernelRevoke_l0_eq {γ : Type} (slot15 : Int) (single16 : Bool) (j17 : Int) (b18 : Int) (b19 : Int) (b20 : Int) (b21 : (List DEntry)) (b22 : (List Int)) (b23 : Int) (b24 : Int) (b25 : Int) (b26 : Int) (b27 : (List DEntry)) (b28 : (List Int)) (b29 : Int) (b30 : DCap) (kn : Int × Bool × Int × Int × Int × Int × (List DEntry) × (List Int) × Int × Int × Int × Int × (List DEntry) × (List Int) × Int × DCap × Unit → Option γ) (kx : Int × Bool × Int × Int × Int × (List DEntry) × (List Int) × Int × DCap × Unit → Option γ) : laws_FnKernelRevoke_l0K slot15 single16 j17 b18 b19 b20 b21 b22 b23 b24 b25 b26 b27 b28 b29 b30 kn kx = (laws_FnKernelRevoke_l0 (slot15, single16, j17, b18, b19, b20, b21, b22, b23, b24, b25, b26, b27, b28, b29, b30, ())).bind fun r => sum2K r kn kx := by
  simp only [laws_FnKernelRevoke_l0K, laws_FnKernelRevoke_l0, B0, B1, B2, B3, B4, B5, B6, B7, B8, C1, C2, C3, C4, C5]
noncomputable def laws_FnKernelRevokeK {γ : Type} (code1 : (List Int)) (k : Bool → Option γ) : Option γ :=
 bif decide ((code1.length : Int) > (1048576 : Int)) then
  k true
 else
 (spec_DrawSysRevoke code1).bind fun r2 =>
 (impl_SysRevoke ((r2.1, r2.2.1, r2.2.2.1, ()), r2.2.2.2.2.2.1, r2.2.2.2.2.2.2, r2.2.2.2.1, ()) r2.2.2.2.2.1).bind fun r3 =>
 (spec_SysRevoke ((r2.1, r2.2.1, r2.2.2.1, ()), r2.2.2.2.2.2.1, r2.2.2.2.2.2.2, r2.2.2.2.1, ()) r2.2.2.2.2.1).bind fun r4 =>
 (laws_sameKernel ((r3.1, r3.2.1, r3.2.2.1, ()), r3.2.2.2.2.2.1, r3.2.2.2.2.2.2, r3.2.2.2.1, ()) ((r4.1, r4.2.1, r4.2.2.1, ()), r4.2.2.2.2.2.1, r4.2.2.2.2.2.2, r4.2.2.2.1, ())).bind fun r5 =>
 bif (!(!r5)) then
  bif (r3.2.2.2.2.1 != r4.2.2.2.2.1) then
   k false
  else
  bif (!(r3.2.2.2.2.1 != (0 : Int))) then
   nnK r2.2.2.2.2.1 fun i6 =>
   getK r2.2.2.2.2.2.2 i6 fun v7 =>
   nnK v7 fun i8 =>
   getK r2.2.2.2.2.2.1 i8 fun v9 =>
   bif decide (v9.2.1 ≥ (0 : Int)) then
    (laws_alive).bind fun r10 =>
    k r10
   else
   nnK r2.2.2.2.2.1 fun i11 =>
   getK r2.2.2.2.2.2.2 i11 fun v12 =>
   nnK v12 fun i13 =>
   getK r2.2.2.2.2.2.1 i13 fun v14 =>
   (loopF laws_FnKernelRevoke_l0 (r2.2.2.2.2.1, true, (0 : Int), r2.1, r2.2.1, r2.2.2.1, r2.2.2.2.2.2.1, r2.2.2.2.2.2.2, r2.2.2.2.1, r3.1, r3.2.1, r3.2.2.1, r3.2.2.2.2.2.1, r3.2.2.2.2.2.2, r3.2.2.2.1, (v14.1.1, v14.1.2.1, v14.1.2.2.1, v14.1.2.2.2.1, ()), ())).bind fun z39 =>
   (impl_SysDelete ((z39.2.2.1, z39.2.2.2.1, z39.2.2.2.2.1, ()), z39.2.2.2.2.2.1, z39.2.2.2.2.2.2.1, z39.2.2.2.2.2.2.2.1, ()) z39.1).bind fun r40 =>
   bif (!(!z39.2.1)) then
    (impl_StrongestLeft z39.2.2.2.2.2.1 z39.2.2.2.2.2.2.2.2.1.1 z39.2.2.2.2.2.2.2.2.1.2.1).bind fun r41 =>
    bif (r41 == z39.2.2.2.2.2.2.2.2.1.2.2.1) then
     (impl_StrongestLeft r40.2.2.2.2.2.1 z39.2.2.2.2.2.2.2.2.1.1 z39.2.2.2.2.2.2.2.2.1.2.1).bind fun r42 =>
     k (r42 == (0 : Int))
    else
    k false
   else
   k true
  else
  (laws_alive).bind fun r43 =>
  k r43
 else
 k false
noncomputable def laws_FnKernelRevoke (code1 : (List Int)) : Option (Bool) :=
  laws_FnKernelRevokeK code1 some
theorem laws_FnKernelRevoke_eq {γ : Type} (code1 : (List Int)) (k : Bool → Option γ) : laws_FnKernelRevokeK code1 k = (laws_FnKernelRevoke code1).bind k := by
  simp only [laws_FnKernelRevokeK, laws_FnKernelRevoke, B0, B1, B2, B3, B4, B5, B6, B7, B8, C1, C2, C3, C4, C5]

/-! loop.example/capkernel/spec.DrawNewKernel -/
noncomputable def spec_DrawNewKernelK {γ : Type} (code1 : (List Int)) (k : Int × Int → Option γ) : Option γ :=
 (spec_l20Open code1).bind fun r2 =>
 (spec_l20Rd_pick (19 : Int) r2).bind fun r3 =>
 (spec_l20Rd_pick (43 : Int) r3.2).bind fun r4 =>
 k ((IntKind.wrap .i64 (r3.1 - (1 : Int))), (IntKind.wrap .i64 (r4.1 - (1 : Int))))
noncomputable def spec_DrawNewKernel (code1 : (List Int)) : Option (Int × Int) :=
  spec_DrawNewKernelK code1 some
theorem spec_DrawNewKernel_eq {γ : Type} (code1 : (List Int)) (k : Int × Int → Option γ) : spec_DrawNewKernelK code1 k = (spec_DrawNewKernel code1).bind k := by
  simp only [spec_DrawNewKernelK, spec_DrawNewKernel, B0, B1, B2, B3, B4, B5, B6, B7, B8, C1, C2, C3, C4, C5]

/-! loop.example/capkernel/laws.FnKernelNew -/
noncomputable def laws_FnKernelNew_l0K {γ : Type} (bits6 : Int) (places7 : Int) (many8 : Int) (result9 : Int) (b10 : Int) (b11 : Int) (b12 : Int) (b13 : (List DEntry)) (b14 : (List Int)) (b15 : Int) (kn : Int × Int × Int × Int × Int × Int × Int × (List DEntry) × (List Int) × Int × Unit → Option γ) (kx : Int × Int × Int × Int × Unit → Option γ) : Option γ :=
 bif (result9 == (0 : Int)) then
  bif decide (many8 ≤ (30 : Int)) then
   (impl_SysRetype ((b10, b11, b12, ()), b13, b14, b15, ()) (6 : Int) many8).bind fun r16 =>
   bif (r16.2.2.2.2.1 == (0 : Int)) then
    kn (bits6, places7, (IntKind.wrap .i64 (many8 + (1 : Int))), r16.2.2.2.2.1, r16.1, r16.2.1, r16.2.2.1, r16.2.2.2.2.2.1, r16.2.2.2.2.2.2, r16.2.2.2.1, ())
   else
   kn (bits6, places7, many8, r16.2.2.2.2.1, r16.1, r16.2.1, r16.2.2.1, r16.2.2.2.2.2.1, r16.2.2.2.2.2.2, r16.2.2.2.1, ())
  else
  kx (bits6, places7, many8, result9, ())
 else
 kx (bits6, places7, many8, result9, ())
noncomputable def laws_FnKernelNew_l0 (x : Int × Int × Int × Int × Int × Int × Int × (List DEntry) × (List Int) × Int × Unit) : Option ((Int × Int × Int × Int × Int × Int × Int × (List DEntry) × (List Int) × Int × Unit) ⊕ (Int × Int × Int × Int × Unit)) :=
  laws_FnKernelNew_l0K x.1 x.2.1 x.2.2.1 x.2.2.2.1 x.2.2.2.2.1 x.2.2.2.2.2.1 x.2.2.2.2.2.2.1 x.2.2.2.2.2.2.2.1 x.2.2.2.2.2.2.2.2.1 x.2.2.2.2.2.2.2.2.2.1 (fun y => some (.inl y)) (fun a => some (.inr a))
theorem laws_FnKernelNew_l0_eq {γ : Type} (bits6 : Int) (places7 : Int) (many8 : Int) (result9 : Int) (b10 : Int) (b11 : Int) (b12 : Int) (b13 : (List DEntry)) (b14 : (List Int)) (b15 : Int) (kn : Int × Int × Int × Int × Int × Int × Int × (List DEntry) × (List Int) × Int × Unit → Option γ) (kx : Int × Int × Int × Int × Unit → Option γ) : laws_FnKernelNew_l0K bits6 places7 many8 result9 b10 b11 b12 b13 b14 b15 kn kx = (laws_FnKernelNew_l0 (bits6, places7, many8, result9, b10, b11, b12, b13, b14, b15, ())).bind fun r => sum2K r kn kx := by
  simp only [laws_FnKernelNew_l0K, laws_FnKernelNew_l0, B0, B1, B2, B3, B4, B5, B6, B7, B8, C1, C2, C3, C4, C5]
noncomputable def laws_FnKernelNewK {γ : Type} (code1 : (List Int)) (k : Bool → Option γ) : Option γ :=
 bif decide ((code1.length : Int) > (1048576 : Int)) then
  k true
 else
 (spec_DrawNewKernel code1).bind fun r2 =>
 (impl_NewKernel r2.1 r2.2).bind fun r3 =>
 (spec_NewKernel r2.1 r2.2).bind fun r4 =>
 (laws_sameKernel ((r3.1, r3.2.1, r3.2.2.1, ()), r3.2.2.2.2.1, r3.2.2.2.2.2, r3.2.2.2.1, ()) ((r4.1, r4.2.1, r4.2.2.1, ()), r4.2.2.2.2.1, r4.2.2.2.2.2, r4.2.2.2.1, ())).bind fun r5 =>
 bif (!r5) then
  k false
 else
 (loopF laws_FnKernelNew_l0 (r2.1, r2.2, (0 : Int), (0 : Int), r3.1, r3.2.1, r3.2.2.1, r3.2.2.2.2.1, r3.2.2.2.2.2, r3.2.2.2.1, ())).bind fun z17 =>
 bif decide (z17.1 ≥ (8 : Int)) then
  bif decide (z17.1 ≤ (16 : Int)) then
   chk (0 ≤ (IntKind.wrap .i64 (z17.1 - (8 : Int)))) <|
   bif decide (z17.1 ≥ (0 : Int)) then
    bif decide (z17.1 ≤ (16 : Int)) then
     bif decide (z17.2.1 ≥ (0 : Int)) then
      bif (z17.2.2.2.1 != (0 : Int)) then
       bif (!(!decide (z17.2.1 ≤ (40 : Int)))) then
        k (z17.2.2.1 == (if (30 : Int) < (if z17.2.1 < (IntKind.wrap .i64 ((1 : Int) * 2 ^ (min ((IntKind.wrap .i64 (z17.1 - (8 : Int)))).toNat 64))) then z17.2.1 else (IntKind.wrap .i64 ((1 : Int) * 2 ^ (min ((IntKind.wrap .i64 (z17.1 - (8 : Int)))).toNat 64)))) then (30 : Int) else (if z17.2.1 < (IntKind.wrap .i64 ((1 : Int) * 2 ^ (min ((IntKind.wrap .i64 (z17.1 - (8 : Int)))).toNat 64))) then z17.2.1 else (IntKind.wrap .i64 ((1 : Int) * 2 ^ (min ((IntKind.wrap .i64 (z17.1 - (8 : Int)))).toNat 64))))))
       else
       k true
      else
      k false
     else
     bif (z17.2.2.2.1 != (0 : Int)) then
      k true
     else
     k false
    else
    bif (z17.2.2.2.1 != (0 : Int)) then
     k true
    else
    k false
   else
   bif (z17.2.2.2.1 != (0 : Int)) then
    k true
   else
   k false
  else
  bif decide (z17.1 ≥ (0 : Int)) then
   bif decide (z17.1 ≤ (16 : Int)) then
    bif decide (z17.2.1 ≥ (0 : Int)) then
     bif (z17.2.2.2.1 != (0 : Int)) then
      bif (!(!decide (z17.2.1 ≤ (40 : Int)))) then
       k (z17.2.2.1 == (if (30 : Int) < (if z17.2.1 < (0 : Int) then z17.2.1 else (0 : Int)) then (30 : Int) else (if z17.2.1 < (0 : Int) then z17.2.1 else (0 : Int))))
      else
      k true
     else
     k false
    else
    bif (z17.2.2.2.1 != (0 : Int)) then
     k true
    else
    k false
   else
   bif (z17.2.2.2.1 != (0 : Int)) then
    k true
   else
   k false
  else
  bif (z17.2.2.2.1 != (0 : Int)) then
   k true
  else
  k false
 else
 bif decide (z17.1 ≥ (0 : Int)) then
  bif decide (z17.1 ≤ (16 : Int)) then
   bif decide (z17.2.1 ≥ (0 : Int)) then
    bif (z17.2.2.2.1 != (0 : Int)) then
     bif (!(!decide (z17.2.1 ≤ (40 : Int)))) then
      k (z17.2.2.1 == (if (30 : Int) < (if z17.2.1 < (0 : Int) then z17.2.1 else (0 : Int)) then (30 : Int) else (if z17.2.1 < (0 : Int) then z17.2.1 else (0 : Int))))
     else
     k true
    else
    k false
   else
   bif (z17.2.2.2.1 != (0 : Int)) then
    k true
   else
   k false
  else
  bif (z17.2.2.2.1 != (0 : Int)) then
   k true
  else
  k false
 else
 bif (z17.2.2.2.1 != (0 : Int)) then
  k true
 else
 k false
noncomputable def laws_FnKernelNew (code1 : (List Int)) : Option (Bool) :=
  laws_FnKernelNewK code1 some
theorem laws_FnKernelNew_eq {γ : Type} (code1 : (List Int)) (k : Bool → Option γ) : laws_FnKernelNewK code1 k = (laws_FnKernelNew code1).bind k := by
  simp only [laws_FnKernelNewK, laws_FnKernelNew, B0, B1, B2, B3, B4, B5, B6, B7, B8, C1, C2, C3, C4, C5]

/-! loop.example/capkernel/laws.szEntryS -/
noncomputable def laws_szEntrySK {γ : Type} (a1 : (List DEntry)) (left2 : Int) (k : Int → Option γ) : Option γ :=
 bif decide ((IntKind.wrap .i64 (left2 - (a1.length : Int))) < (0 : Int)) then
  k (-1 : Int)
 else
 k (IntKind.wrap .i64 (left2 - (a1.length : Int)))
noncomputable def laws_szEntryS (a1 : (List DEntry)) (left2 : Int) : Option (Int) :=
  laws_szEntrySK a1 left2 some
theorem laws_szEntryS_eq {γ : Type} (a1 : (List DEntry)) (left2 : Int) (k : Int → Option γ) : laws_szEntrySK a1 left2 k = (laws_szEntryS a1 left2).bind k := by
  simp only [laws_szEntrySK, laws_szEntryS, B0, B1, B2, B3, B4, B5, B6, B7, B8, C1, C2, C3, C4, C5]

/-! loop.example/capkernel/laws.szIntS -/
noncomputable def laws_szIntSK {γ : Type} (a1 : (List Int)) (left2 : Int) (k : Int → Option γ) : Option γ :=
 bif decide ((IntKind.wrap .i64 (left2 - (a1.length : Int))) < (0 : Int)) then
  k (-1 : Int)
 else
 k (IntKind.wrap .i64 (left2 - (a1.length : Int)))
noncomputable def laws_szIntS (a1 : (List Int)) (left2 : Int) : Option (Int) :=
  laws_szIntSK a1 left2 some
theorem laws_szIntS_eq {γ : Type} (a1 : (List Int)) (left2 : Int) (k : Int → Option γ) : laws_szIntSK a1 left2 k = (laws_szIntS a1 left2).bind k := by
  simp only [laws_szIntSK, laws_szIntS, B0, B1, B2, B3, B4, B5, B6, B7, B8, C1, C2, C3, C4, C5]

/-! loop.example/capkernel/laws.szKernel -/
noncomputable def laws_szKernelK {γ : Type} (a1 : DKernel) (left2 : Int) (k : Int → Option γ) : Option γ :=
 (laws_szEntryS a1.2.1 left2).bind fun r3 =>
 bif decide (r3 < (0 : Int)) then
  k (-1 : Int)
 else
 (laws_szIntS a1.2.2.1 r3).bind fun r4 =>
 bif decide (r4 < (0 : Int)) then
  k (-1 : Int)
 else
 k r4
noncomputable def laws_szKernel (a1 : DKernel) (left2 : Int) : Option (Int) :=
  laws_szKernelK a1 left2 some
theorem laws_szKernel_eq {γ : Type} (a1 : DKernel) (left2 : Int) (k : Int → Option γ) : laws_szKernelK a1 left2 k = (laws_szKernel a1 left2).bind k := by
  simp only [laws_szKernelK, laws_szKernel, B0, B1, B2, B3, B4, B5, B6, B7, B8, C1, C2, C3, C4, C5]

/-! loop.example/capkernel/laws.toPiece -/
noncomputable def laws_toPieceK {γ : Type} (a1 : DPiece) (k : DPiece → Option γ) : Option γ :=
 k (a1.1, a1.2.1, a1.2.2.1, ())
noncomputable def laws_toPiece (a1 : DPiece) : Option (DPiece) :=
  laws_toPieceK a1 some
theorem laws_toPiece_eq {γ : Type} (a1 : DPiece) (k : DPiece → Option γ) : laws_toPieceK a1 k = (laws_toPiece a1).bind k := by
  simp only [laws_toPieceK, laws_toPiece, B0, B1, B2, B3, B4, B5, B6, B7, B8, C1, C2, C3, C4, C5]

/-! loop.example/capkernel/laws.toCap -/
noncomputable def laws_toCapK {γ : Type} (a1 : DCap) (k : DCap → Option γ) : Option γ :=
 k (a1.1, a1.2.1, a1.2.2.1, a1.2.2.2.1, ())
noncomputable def laws_toCap (a1 : DCap) : Option (DCap) :=
  laws_toCapK a1 some
theorem laws_toCap_eq {γ : Type} (a1 : DCap) (k : DCap → Option γ) : laws_toCapK a1 k = (laws_toCap a1).bind k := by
  simp only [laws_toCapK, laws_toCap, B0, B1, B2, B3, B4, B5, B6, B7, B8, C1, C2, C3, C4, C5]

/-! loop.example/capkernel/laws.toEntry -/
noncomputable def laws_toEntryK {γ : Type} (a1 : DEntry) (k : DEntry → Option γ) : Option γ :=
 (laws_toCap (a1.1.1, a1.1.2.1, a1.1.2.2.1, a1.1.2.2.2.1, ())).bind fun r2 =>
 k ((r2.1, r2.2.1, r2.2.2.1, r2.2.2.2.1, ()), a1.2.1, a1.2.2.1, ())
noncomputable def laws_toEntry (a1 : DEntry) : Option (DEntry) :=
  laws_toEntryK a1 some
theorem laws_toEntry_eq {γ : Type} (a1 : DEntry) (k : DEntry → Option γ) : laws_toEntryK a1 k = (laws_toEntry a1).bind k := by
  simp only [laws_toEntryK, laws_toEntry, B0, B1, B2, B3, B4, B5, B6, B7, B8, C1, C2, C3, C4, C5]

/-! loop.example/capkernel/laws.toEntryS -/
noncomputable def laws_toEntryS_l0K {γ : Type} (a2 : (List DEntry)) (i3 : Int) (b4 : (List DEntry)) (kn : (List DEntry) × Int × (List DEntry) × Unit → Option γ) (kx : (List DEntry) × Unit → Option γ) : Option γ :=
 bif decide (i3 < (a2.length : Int)) then
  nnK i3 fun i5 =>
  getK a2 i5 fun v6 =>
  (laws_toEntry v6).bind fun r7 =>
  nnK i3 fun i8 =>
  chk (i8 < b4.length) <|
  getK b4 i8 fun y9 =>
  kn (a2, (IntKind.wrap .i64 (i3 + (1 : Int))), (b4.set i8 ((r7.1.1, r7.1.2.1, r7.1.2.2.1, r7.1.2.2.2.1, ()), r7.2.1, r7.2.2.1, ())), ())
 else
 kx (b4, ())
noncomputable def laws_toEntryS_l0 (x : (List DEntry) × Int × (List DEntry) × Unit) : Option (((List DEntry) × Int × (List DEntry) × Unit) ⊕ ((List DEntry) × Unit)) :=
  laws_toEntryS_l0K x.1 x.2.1 x.2.2.1 (fun y => some (.inl y)) (fun a => some (.inr a))
theorem laws_toEntryS_l0_eq {γ : Type} (a2 : (List DEntry)) (i3 : Int) (b4 : (List DEntry)) (kn : (List DEntry) × Int × (List DEntry) × Unit → Option γ) (kx : (List DEntry) × Unit → Option γ) : laws_toEntryS_l0K a2 i3 b4 kn kx = (laws_toEntryS_l0 (a2, i3, b4, ())).bind fun r => sum2K r kn kx := by
  simp only [laws_toEntryS_l0K, laws_toEntryS_l0, B0, B1, B2, B3, B4, B5, B6, B7, B8, C1, C2, C3, C4, C5]
noncomputable def laws_toEntrySK {γ : Type} (a1 : (List DEntry)) (k : (List DEntry) → Option γ) : Option γ :=
 chk (a1.length ≤ bigRow) <|
 (loopF laws_toEntryS_l0 (a1, (0 : Int), (List.replicate a1.length (((0 : Int), (0 : Int), (0 : Int), (0 : Int), ()), (0 : Int), false, ())), ())).bind fun z10 =>
 k z10.1
noncomputable def laws_toEntryS (a1 : (List DEntry)) : Option ((List DEntry)) :=
  laws_toEntrySK a1 some
theorem laws_toEntryS_eq {γ : Type} (a1 : (List DEntry)) (k : (List DEntry) → Option γ) : laws_toEntrySK a1 k = (laws_toEntryS a1).bind k := by
  simp only [laws_toEntrySK, laws_toEntryS, B0, B1, B2, B3, B4, B5, B6, B7, B8, C1, C2, C3, C4, C5]

/-! loop.example/capkernel/laws.toIntS -/
noncomputable def laws_toIntS_l0K {γ : Type} (a2 : (List Int)) (i3 : Int) (b4 : (List Int)) (kn : (List Int) × Int × (List Int) × Unit → Option γ) (kx : (List Int) × Unit → Option γ) : Option γ :=
 bif decide (i3 < (a2.length : Int)) then
  nnK i3 fun i5 =>
  getK a2 i5 fun v6 =>
  nnK i3 fun i7 =>
  chk (i7 < b4.length) <|
  getK b4 i7 fun y8 =>
  kn (a2, (IntKind.wrap .i64 (i3 + (1 : Int))), (b4.set i7 v6), ())
 else
 kx (b4, ())
noncomputable def laws_toIntS_l0 (x : (List Int) × Int × (List Int) × Unit) : Option (((List Int) × Int × (List Int) × Unit) ⊕ ((List Int) × Unit)) :=
  laws_toIntS_l0K x.1 x.2.1 x.2.2.1 (fun y => some (.inl y)) (fun a => some (.inr a))
theorem laws_toIntS_l0_eq {γ : Type} (a2 : (List Int)) (i3 : Int) (b4 : (List Int)) (kn : (List Int) × Int × (List Int) × Unit → Option γ) (kx : (List Int) × Unit → Option γ) : laws_toIntS_l0K a2 i3 b4 kn kx = (laws_toIntS_l0 (a2, i3, b4, ())).bind fun r => sum2K r kn kx := by
  simp only [laws_toIntS_l0K, laws_toIntS_l0, B0, B1, B2, B3, B4, B5, B6, B7, B8, C1, C2, C3, C4, C5]
noncomputable def laws_toIntSK {γ : Type} (a1 : (List Int)) (k : (List Int) → Option γ) : Option γ :=
 chk (a1.length ≤ bigRow) <|
 (loopF laws_toIntS_l0 (a1, (0 : Int), (List.replicate a1.length (0 : Int)), ())).bind fun z9 =>
 k z9.1
noncomputable def laws_toIntS (a1 : (List Int)) : Option ((List Int)) :=
  laws_toIntSK a1 some
theorem laws_toIntS_eq {γ : Type} (a1 : (List Int)) (k : (List Int) → Option γ) : laws_toIntSK a1 k = (laws_toIntS a1).bind k := by
  simp only [laws_toIntSK, laws_toIntS, B0, B1, B2, B3, B4, B5, B6, B7, B8, C1, C2, C3, C4, C5]

/-! loop.example/capkernel/laws.toKernel -/
noncomputable def laws_toKernelK {γ : Type} (a1 : DKernel) (k : Int × Int × Int × Int × (List DEntry) × (List Int) → Option γ) : Option γ :=
 (laws_toPiece (a1.1.1, a1.1.2.1, a1.1.2.2.1, ())).bind fun r2 =>
 (laws_toEntryS a1.2.1).bind fun r3 =>
 (laws_toIntS a1.2.2.1).bind fun r4 =>
 k (r2.1, r2.2.1, r2.2.2.1, a1.2.2.2.1, r3, r4)
noncomputable def laws_toKernel (a1 : DKernel) : Option (Int × Int × Int × Int × (List DEntry) × (List Int)) :=
  laws_toKernelK a1 some
theorem laws_toKernel_eq {γ : Type} (a1 : DKernel) (k : Int × Int × Int × Int × (List DEntry) × (List Int) → Option γ) : laws_toKernelK a1 k = (laws_toKernel a1).bind k := by
  simp only [laws_toKernelK, laws_toKernel, B0, B1, B2, B3, B4, B5, B6, B7, B8, C1, C2, C3, C4, C5]

/-! loop.example/capkernel/laws.FnExactKernelValid -/
noncomputable def laws_FnExactKernelValidK {γ : Type} (aK1 : DKernel) (k : Bool → Option γ) : Option γ :=
 (laws_szKernel ((aK1.1.1, aK1.1.2.1, aK1.1.2.2.1, ()), aK1.2.1, aK1.2.2.1, aK1.2.2.2.1, ()) (1048576 : Int)).bind fun r2 =>
 bif decide (r2 < (0 : Int)) then
  k true
 else
 (laws_toKernel ((aK1.1.1, aK1.1.2.1, aK1.1.2.2.1, ()), aK1.2.1, aK1.2.2.1, aK1.2.2.2.1, ())).bind fun r3 =>
 (spec_KernelValid ((r3.1, r3.2.1, r3.2.2.1, ()), r3.2.2.2.2.1, r3.2.2.2.2.2, r3.2.2.2.1, ())).bind fun r4 =>
 (laws_toKernel ((aK1.1.1, aK1.1.2.1, aK1.1.2.2.1, ()), aK1.2.1, aK1.2.2.1, aK1.2.2.2.1, ())).bind fun r5 =>
 (impl_KernelValid ((r5.1, r5.2.1, r5.2.2.1, ()), r5.2.2.2.2.1, r5.2.2.2.2.2, r5.2.2.2.1, ())).bind fun r6 =>
 bif (!(r6 == r4)) then
  k false
 else
 (laws_toKernel ((aK1.1.1, aK1.1.2.1, aK1.1.2.2.1, ()), aK1.2.1, aK1.2.2.1, aK1.2.2.2.1, ())).bind fun r7 =>
 (laws_eqKernel ((r5.1, r5.2.1, r5.2.2.1, ()), r5.2.2.2.2.1, r5.2.2.2.2.2, r5.2.2.2.1, ()) ((r7.1, r7.2.1, r7.2.2.1, ()), r7.2.2.2.2.1, r7.2.2.2.2.2, r7.2.2.2.1, ())).bind fun r8 =>
 bif (!r8) then
  k false
 else
 k true
noncomputable def laws_FnExactKernelValid (aK1 : DKernel) : Option (Bool) :=
  laws_FnExactKernelValidK aK1 some
theorem laws_FnExactKernelValid_eq {γ : Type} (aK1 : DKernel) (k : Bool → Option γ) : laws_FnExactKernelValidK aK1 k = (laws_FnExactKernelValid aK1).bind k := by
  simp only [laws_FnExactKernelValidK, laws_FnExactKernelValid, B0, B1, B2, B3, B4, B5, B6, B7, B8, C1, C2, C3, C4, C5]

/-! loop.example/capkernel/laws.FnNewKernel -/
noncomputable def laws_FnNewKernelK {γ : Type} (code1 : (List Int)) (k : Bool → Option γ) : Option γ :=
 bif decide ((code1.length : Int) > (1048576 : Int)) then
  k true
 else
 (spec_DrawNewKernel code1).bind fun r2 =>
 (impl_NewKernel r2.1 r2.2).bind fun r3 =>
 (spec_NewKernel r2.1 r2.2).bind fun r4 =>
 (laws_sameKernel ((r3.1, r3.2.1, r3.2.2.1, ()), r3.2.2.2.2.1, r3.2.2.2.2.2, r3.2.2.2.1, ()) ((r4.1, r4.2.1, r4.2.2.1, ()), r4.2.2.2.2.1, r4.2.2.2.2.2, r4.2.2.2.1, ())).bind fun r5 =>
 bif (!r5) then
  k false
 else
 bif (!decide (r2.1 < (0 : Int))) then
  bif (!decide (r2.1 > (16 : Int))) then
   bif (!decide (r2.2 < (0 : Int))) then
    bif decide (r2.2 > (40 : Int)) then
     (laws_sameKernel ((r3.1, r3.2.1, r3.2.2.1, ()), r3.2.2.2.2.1, r3.2.2.2.2.2, r3.2.2.2.1, ()) (((0 : Int), (0 : Int), (0 : Int), ()), [], [], (0 : Int), ())).bind fun r6 =>
     bif r6 then
      (laws_alive).bind fun r7 =>
      k r7
     else
     k false
    else
    (impl_SysRevoke ((r3.1, r3.2.1, r3.2.2.1, ()), r3.2.2.2.2.1, r3.2.2.2.2.2, r3.2.2.2.1, ()) (0 : Int)).bind fun r8 =>
    (impl_KernelValid ((r3.1, r3.2.1, r3.2.2.1, ()), r3.2.2.2.2.1, r3.2.2.2.2.2, r3.2.2.2.1, ())).bind fun r9 =>
    bif r9 then
     bif ((r3.2.2.2.2.2.length : Int) == r2.2) then
      bif ((r3.2.2.2.2.1.length : Int) == (0 : Int)) then
       k (r8.2.2.2.2.1 == (1 : Int))
      else
      k false
     else
     k false
    else
    k false
   else
   (laws_sameKernel ((r3.1, r3.2.1, r3.2.2.1, ()), r3.2.2.2.2.1, r3.2.2.2.2.2, r3.2.2.2.1, ()) (((0 : Int), (0 : Int), (0 : Int), ()), [], [], (0 : Int), ())).bind fun r10 =>
   bif r10 then
    (laws_alive).bind fun r11 =>
    k r11
   else
   k false
  else
  (laws_sameKernel ((r3.1, r3.2.1, r3.2.2.1, ()), r3.2.2.2.2.1, r3.2.2.2.2.2, r3.2.2.2.1, ()) (((0 : Int), (0 : Int), (0 : Int), ()), [], [], (0 : Int), ())).bind fun r12 =>
  bif r12 then
   (laws_alive).bind fun r13 =>
   k r13
  else
  k false
 else
 (laws_sameKernel ((r3.1, r3.2.1, r3.2.2.1, ()), r3.2.2.2.2.1, r3.2.2.2.2.2, r3.2.2.2.1, ()) (((0 : Int), (0 : Int), (0 : Int), ()), [], [], (0 : Int), ())).bind fun r14 =>
 bif r14 then
  (laws_alive).bind fun r15 =>
  k r15
 else
 k false
noncomputable def laws_FnNewKernel (code1 : (List Int)) : Option (Bool) :=
  laws_FnNewKernelK code1 some
theorem laws_FnNewKernel_eq {γ : Type} (code1 : (List Int)) (k : Bool → Option γ) : laws_FnNewKernelK code1 k = (laws_FnNewKernel code1).bind k := by
  simp only [laws_FnNewKernelK, laws_FnNewKernel, B0, B1, B2, B3, B4, B5, B6, B7, B8, C1, C2, C3, C4, C5]

/-! loop.example/capkernel/spec.MovePlace -/
noncomputable def spec_MovePlaceK {γ : Type} (list1 : (List Int)) (fromq2 : Int) (toq3 : Int) (k : Bool × (List Int) → Option γ) : Option γ :=
 (spec_PlacesValid list1).bind fun r4 =>
 bif (!r4) then
  k (false, [])
 else
 chk (list1.length ≤ bigRow) <|
 (spec_l1In fromq2 (0 : Int) (IntKind.wrap .i64 ((list1.length : Int) - (1 : Int)))).bind fun r5 =>
 bif (!(!r5)) then
  (spec_l1In toq3 (0 : Int) (IntKind.wrap .i64 ((list1.length : Int) - (1 : Int)))).bind fun r6 =>
  bif (!(!r6)) then
   nnK fromq2 fun i7 =>
   getK list1 i7 fun v8 =>
   bif (!decide (v8 < (0 : Int))) then
    nnK toq3 fun i9 =>
    getK list1 i9 fun v10 =>
    bif decide (v10 ≥ (0 : Int)) then
     k (false, list1)
    else
    nnK fromq2 fun i11 =>
    getK list1 i11 fun v12 =>
    nnK toq3 fun i13 =>
    chk (i13 < list1.length) <|
    getK list1 i13 fun y14 =>
    nnK fromq2 fun i15 =>
    chk (i15 < (list1.set i13 v12).length) <|
    getK (list1.set i13 v12) i15 fun y16 =>
    k (true, ((list1.set i13 v12).set i15 (-1 : Int)))
   else
   k (false, list1)
  else
  k (false, list1)
 else
 k (false, list1)
noncomputable def spec_MovePlace (list1 : (List Int)) (fromq2 : Int) (toq3 : Int) : Option (Bool × (List Int)) :=
  spec_MovePlaceK list1 fromq2 toq3 some
theorem spec_MovePlace_eq {γ : Type} (list1 : (List Int)) (fromq2 : Int) (toq3 : Int) (k : Bool × (List Int) → Option γ) : spec_MovePlaceK list1 fromq2 toq3 k = (spec_MovePlace list1 fromq2 toq3).bind k := by
  simp only [spec_MovePlaceK, spec_MovePlace, B0, B1, B2, B3, B4, B5, B6, B7, B8, C1, C2, C3, C4, C5]

/-! loop.example/capkernel/spec.SysMove -/
noncomputable def spec_SysMoveK {γ : Type} (kq1 : DKernel) (fromq2 : Int) (toq3 : Int) (k : Int × Int × Int × Int × Int × (List DEntry) × (List Int) → Option γ) : Option γ :=
 (spec_KernelValid ((kq1.1.1, kq1.1.2.1, kq1.1.2.2.1, ()), kq1.2.1, kq1.2.2.1, kq1.2.2.2.1, ())).bind fun r4 =>
 bif (!r4) then
  k ((0 : Int), (0 : Int), (0 : Int), (0 : Int), (3 : Int), [], [])
 else
 (spec_l25Copy ((kq1.1.1, kq1.1.2.1, kq1.1.2.2.1, ()), kq1.2.1, kq1.2.2.1, kq1.2.2.2.1, ())).bind fun r5 =>
 (spec_MovePlace kq1.2.2.1 fromq2 toq3).bind fun r6 =>
 bif (!r6.1) then
  k (r5.1, r5.2.1, r5.2.2.1, r5.2.2.2.1, (1 : Int), r5.2.2.2.2.1, r5.2.2.2.2.2)
 else
 k (r5.1, r5.2.1, r5.2.2.1, r5.2.2.2.1, (0 : Int), r5.2.2.2.2.1, r6.2)
noncomputable def spec_SysMove (kq1 : DKernel) (fromq2 : Int) (toq3 : Int) : Option (Int × Int × Int × Int × Int × (List DEntry) × (List Int)) :=
  spec_SysMoveK kq1 fromq2 toq3 some
theorem spec_SysMove_eq {γ : Type} (kq1 : DKernel) (fromq2 : Int) (toq3 : Int) (k : Int × Int × Int × Int × Int × (List DEntry) × (List Int) → Option γ) : spec_SysMoveK kq1 fromq2 toq3 k = (spec_SysMove kq1 fromq2 toq3).bind k := by
  simp only [spec_SysMoveK, spec_SysMove, B0, B1, B2, B3, B4, B5, B6, B7, B8, C1, C2, C3, C4, C5]

/-! loop.example/capkernel/impl.MovePlace$1 -/
noncomputable def impl_MovePlace_c1K {γ : Type} (p1 : (List Int)) (p2 : Int) (p3 : Int) (k : Bool → Option γ) : Option γ :=
 nnK p2 fun i4 =>
 getK p1 i4 fun v5 =>
 bif decide (v5 ≥ (0 : Int)) then
  nnK p3 fun i6 =>
  getK p1 i6 fun v7 =>
  k (decide (v7 < (0 : Int)))
 else
 k false
noncomputable def impl_MovePlace_c1 (p1 : (List Int)) (p2 : Int) (p3 : Int) : Option (Bool) :=
  impl_MovePlace_c1K p1 p2 p3 some
theorem impl_MovePlace_c1_eq {γ : Type} (p1 : (List Int)) (p2 : Int) (p3 : Int) (k : Bool → Option γ) : impl_MovePlace_c1K p1 p2 p3 k = (impl_MovePlace_c1 p1 p2 p3).bind k := by
  simp only [impl_MovePlace_c1K, impl_MovePlace_c1, B0, B1, B2, B3, B4, B5, B6, B7, B8, C1, C2, C3, C4, C5]

/-! loop.example/capkernel/impl.exchange -/
noncomputable def impl_exchangeK {γ : Type} (list1 : (List Int)) (a2 : Int) (b3 : Int) (may4 : (List Int)) (may5 : Int) (may6 : Int) (k : Bool × (List Int) → Option γ) : Option γ :=
 (impl_PlacesValid list1).bind fun r7 =>
 bif (!r7) then
  k (false, [])
 else
 (impl_clone_int list1).bind fun r8 =>
 (impl_in a2 (0 : Int) (IntKind.wrap .i64 ((list1.length : Int) - (1 : Int)))).bind fun r9 =>
 bif (!(!r9)) then
  (impl_in b3 (0 : Int) (IntKind.wrap .i64 ((list1.length : Int) - (1 : Int)))).bind fun r10 =>
  bif (!(!r10)) then
   (impl_MovePlace_c1 may4 may5 may6).bind fun r11 =>
   bif (!r11) then
    k (false, r8)
   else
   nnK b3 fun i12 =>
   chk (i12 < r8.length) <|
   getK r8 i12 fun v13 =>
   nnK a2 fun i14 =>
   chk (i14 < r8.length) <|
   getK r8 i14 fun v15 =>
   nnK a2 fun i16 =>
   chk (i16 < r8.length) <|
   getK r8 i16 fun y17 =>
   nnK b3 fun i18 =>
   chk (i18 < (r8.set i16 v13).length) <|
   getK (r8.set i16 v13) i18 fun y19 =>
   k (true, ((r8.set i16 v13).set i18 v15))
  else
  k (false, r8)
 else
 k (false, r8)
noncomputable def impl_exchange (list1 : (List Int)) (a2 : Int) (b3 : Int) (may4 : (List Int)) (may5 : Int) (may6 : Int) : Option (Bool × (List Int)) :=
  impl_exchangeK list1 a2 b3 may4 may5 may6 some
theorem impl_exchange_eq {γ : Type} (list1 : (List Int)) (a2 : Int) (b3 : Int) (may4 : (List Int)) (may5 : Int) (may6 : Int) (k : Bool × (List Int) → Option γ) : impl_exchangeK list1 a2 b3 may4 may5 may6 k = (impl_exchange list1 a2 b3 may4 may5 may6).bind k := by
  simp only [impl_exchangeK, impl_exchange, B0, B1, B2, B3, B4, B5, B6, B7, B8, C1, C2, C3, C4, C5]

/-! loop.example/capkernel/impl.MovePlace -/
noncomputable def impl_MovePlaceK {γ : Type} (list1 : (List Int)) (fromq2 : Int) (toq3 : Int) (k : Bool × (List Int) → Option γ) : Option γ :=
 (impl_exchange list1 fromq2 toq3 list1 fromq2 toq3).bind fun r4 =>
 k (r4.1, r4.2)
noncomputable def impl_MovePlace (list1 : (List Int)) (fromq2 : Int) (toq3 : Int) : Option (Bool × (List Int)) :=
  impl_MovePlaceK list1 fromq2 toq3 some
theorem impl_MovePlace_eq {γ : Type} (list1 : (List Int)) (fromq2 : Int) (toq3 : Int) (k : Bool × (List Int) → Option γ) : impl_MovePlaceK list1 fromq2 toq3 k = (impl_MovePlace list1 fromq2 toq3).bind k := by
  simp only [impl_MovePlaceK, impl_MovePlace, B0, B1, B2, B3, B4, B5, B6, B7, B8, C1, C2, C3, C4, C5]

/-! loop.example/capkernel/impl.SysMove -/
noncomputable def impl_SysMoveK {γ : Type} (kq1 : DKernel) (fromq2 : Int) (toq3 : Int) (k : Int × Int × Int × Int × Int × (List DEntry) × (List Int) → Option γ) : Option γ :=
 (impl_KernelValid ((kq1.1.1, kq1.1.2.1, kq1.1.2.2.1, ()), kq1.2.1, kq1.2.2.1, kq1.2.2.2.1, ())).bind fun r4 =>
 bif (!r4) then
  k ((0 : Int), (0 : Int), (0 : Int), (0 : Int), (3 : Int), [], [])
 else
 (impl_Kernel_copyOf ((kq1.1.1, kq1.1.2.1, kq1.1.2.2.1, ()), kq1.2.1, kq1.2.2.1, kq1.2.2.2.1, ())).bind fun r5 =>
 (impl_MovePlace kq1.2.2.1 fromq2 toq3).bind fun r6 =>
 bif (!r6.1) then
  k (r5.1, r5.2.1, r5.2.2.1, r5.2.2.2.1, (1 : Int), r5.2.2.2.2.1, r5.2.2.2.2.2)
 else
 k (r5.1, r5.2.1, r5.2.2.1, r5.2.2.2.1, (0 : Int), r5.2.2.2.2.1, r6.2)
noncomputable def impl_SysMove (kq1 : DKernel) (fromq2 : Int) (toq3 : Int) : Option (Int × Int × Int × Int × Int × (List DEntry) × (List Int)) :=
  impl_SysMoveK kq1 fromq2 toq3 some
theorem impl_SysMove_eq {γ : Type} (kq1 : DKernel) (fromq2 : Int) (toq3 : Int) (k : Int × Int × Int × Int × Int × (List DEntry) × (List Int) → Option γ) : impl_SysMoveK kq1 fromq2 toq3 k = (impl_SysMove kq1 fromq2 toq3).bind k := by
  simp only [impl_SysMoveK, impl_SysMove, B0, B1, B2, B3, B4, B5, B6, B7, B8, C1, C2, C3, C4, C5]

/-! loop.example/capkernel/laws.FnExactSysMove -/
noncomputable def laws_FnExactSysMoveK {γ : Type} (aK1 : DKernel) (aFrom2 : Int) (aTo3 : Int) (k : Bool → Option γ) : Option γ :=
 (laws_szKernel ((aK1.1.1, aK1.1.2.1, aK1.1.2.2.1, ()), aK1.2.1, aK1.2.2.1, aK1.2.2.2.1, ()) (1048576 : Int)).bind fun r4 =>
 bif decide (r4 < (0 : Int)) then
  k true
 else
 (laws_toKernel ((aK1.1.1, aK1.1.2.1, aK1.1.2.2.1, ()), aK1.2.1, aK1.2.2.1, aK1.2.2.2.1, ())).bind fun r5 =>
 (spec_SysMove ((r5.1, r5.2.1, r5.2.2.1, ()), r5.2.2.2.2.1, r5.2.2.2.2.2, r5.2.2.2.1, ()) aFrom2 aTo3).bind fun r6 =>
 (laws_toKernel ((aK1.1.1, aK1.1.2.1, aK1.1.2.2.1, ()), aK1.2.1, aK1.2.2.1, aK1.2.2.2.1, ())).bind fun r7 =>
 (impl_SysMove ((r7.1, r7.2.1, r7.2.2.1, ()), r7.2.2.2.2.1, r7.2.2.2.2.2, r7.2.2.2.1, ()) aFrom2 aTo3).bind fun r8 =>
 (laws_eqKernel ((r8.1, r8.2.1, r8.2.2.1, ()), r8.2.2.2.2.2.1, r8.2.2.2.2.2.2, r8.2.2.2.1, ()) ((r6.1, r6.2.1, r6.2.2.1, ()), r6.2.2.2.2.2.1, r6.2.2.2.2.2.2, r6.2.2.2.1, ())).bind fun r9 =>
 bif (!(!r9)) then
  bif (r8.2.2.2.2.1 != r6.2.2.2.2.1) then
   k false
  else
  (laws_toKernel ((aK1.1.1, aK1.1.2.1, aK1.1.2.2.1, ()), aK1.2.1, aK1.2.2.1, aK1.2.2.2.1, ())).bind fun r10 =>
  (laws_eqKernel ((r7.1, r7.2.1, r7.2.2.1, ()), r7.2.2.2.2.1, r7.2.2.2.2.2, r7.2.2.2.1, ()) ((r10.1, r10.2.1, r10.2.2.1, ()), r10.2.2.2.2.1, r10.2.2.2.2.2, r10.2.2.2.1, ())).bind fun r11 =>
  bif (!r11) then
   k false
  else
  (laws_markKernel r7.1 r7.2.1 r7.2.2.1 r7.2.2.2.1 (1 : Int) r7.2.2.2.2.1 r7.2.2.2.2.2).bind fun r12 =>
  bif (!decide (r12.1 < (0 : Int))) then
   (laws_eqKernel ((r8.1, r8.2.1, r8.2.2.1, ()), r8.2.2.2.2.2.1, r8.2.2.2.2.2.2, r8.2.2.2.1, ()) ((r6.1, r6.2.1, r6.2.2.1, ()), r6.2.2.2.2.2.1, r6.2.2.2.2.2.2, r6.2.2.2.1, ())).bind fun r13 =>
   bif (!(!r13)) then
    bif (r8.2.2.2.2.1 != r6.2.2.2.2.1) then
     k false
    else
    (laws_markKernel r8.1 r8.2.1 r8.2.2.1 r8.2.2.2.1 (1 : Int) r8.2.2.2.2.2.1 r8.2.2.2.2.2.2).bind fun r14 =>
    (laws_heldKernel ((r8.1, r8.2.1, r8.2.2.1, ()), r14.2.1, r14.2.2, r8.2.2.2.1, ()) (1 : Int)).bind fun r15 =>
    bif decide (r15 < (0 : Int)) then
     k false
    else
    bif (r15 != r14.1) then
     k false
    else
    (laws_toKernel ((aK1.1.1, aK1.1.2.1, aK1.1.2.2.1, ()), aK1.2.1, aK1.2.2.1, aK1.2.2.2.1, ())).bind fun r16 =>
    (impl_SysMove ((r16.1, r16.2.1, r16.2.2.1, ()), r16.2.2.2.2.1, r16.2.2.2.2.2, r16.2.2.2.1, ()) aFrom2 aTo3).bind fun r17 =>
    (laws_eqKernel ((r17.1, r17.2.1, r17.2.2.1, ()), r17.2.2.2.2.2.1, r17.2.2.2.2.2.2, r17.2.2.2.1, ()) ((r6.1, r6.2.1, r6.2.2.1, ()), r6.2.2.2.2.2.1, r6.2.2.2.2.2.2, r6.2.2.2.1, ())).bind fun r18 =>
    bif (!(!r18)) then
     bif (r17.2.2.2.2.1 != r6.2.2.2.2.1) then
      k false
     else
     (laws_heldKernel ((r8.1, r8.2.1, r8.2.2.1, ()), r14.2.1, r14.2.2, r8.2.2.2.1, ()) (1 : Int)).bind fun r19 =>
     bif decide (r19 < (0 : Int)) then
      k false
     else
     bif (r19 != r14.1) then
      k false
     else
     k true
    else
    k false
   else
   k false
  else
  k false
 else
 k false
noncomputable def laws_FnExactSysMove (aK1 : DKernel) (aFrom2 : Int) (aTo3 : Int) : Option (Bool) :=
  laws_FnExactSysMoveK aK1 aFrom2 aTo3 some
theorem laws_FnExactSysMove_eq {γ : Type} (aK1 : DKernel) (aFrom2 : Int) (aTo3 : Int) (k : Bool → Option γ) : laws_FnExactSysMoveK aK1 aFrom2 aTo3 k = (laws_FnExactSysMove aK1 aFrom2 aTo3).bind k := by
  simp only [laws_FnExactSysMoveK, laws_FnExactSysMove, B0, B1, B2, B3, B4, B5, B6, B7, B8, C1, C2, C3, C4, C5]

/-! loop.example/capkernel/spec.DrawKernelValid -/
noncomputable def spec_DrawKernelValidK {γ : Type} (code1 : (List Int)) (k : Int × Int × Int × Int × (List DEntry) × (List Int) → Option γ) : Option γ :=
 (spec_l20Open code1).bind fun r2 =>
 (spec_l20Kernel (2 : Int) r2).bind fun r3 =>
 k (r3.1, r3.2.1, r3.2.2.1, r3.2.2.2.1, r3.2.2.2.2.2.1, r3.2.2.2.2.2.2)
noncomputable def spec_DrawKernelValid (code1 : (List Int)) : Option (Int × Int × Int × Int × (List DEntry) × (List Int)) :=
  spec_DrawKernelValidK code1 some
theorem spec_DrawKernelValid_eq {γ : Type} (code1 : (List Int)) (k : Int × Int × Int × Int × (List DEntry) × (List Int) → Option γ) : spec_DrawKernelValidK code1 k = (spec_DrawKernelValid code1).bind k := by
  simp only [spec_DrawKernelValidK, spec_DrawKernelValid, B0, B1, B2, B3, B4, B5, B6, B7, B8, C1, C2, C3, C4, C5]

/-! loop.example/capkernel/laws.FnKernelValid -/
noncomputable def laws_FnKernelValidK {γ : Type} (code1 : (List Int)) (k : Bool → Option γ) : Option γ :=
 bif decide ((code1.length : Int) > (1048576 : Int)) then
  k true
 else
 (spec_DrawKernelValid code1).bind fun r2 =>
 (impl_KernelValid ((r2.1, r2.2.1, r2.2.2.1, ()), r2.2.2.2.2.1, r2.2.2.2.2.2, r2.2.2.2.1, ())).bind fun r3 =>
 (spec_KernelValid ((r2.1, r2.2.1, r2.2.2.1, ()), r2.2.2.2.2.1, r2.2.2.2.2.2, r2.2.2.2.1, ())).bind fun r4 =>
 bif (!(r3 == r4)) then
  k false
 else
 bif (!r3) then
  (laws_alive).bind fun r5 =>
  k r5
 else
 chk (r2.2.2.2.2.1.length ≤ bigRow) <|
 chk ((r2.2.2.2.2.1.length + 1) ≤ bigRow) <|
 (impl_KernelValid ((r2.1, r2.2.1, r2.2.2.1, ()), (r2.2.2.2.2.1 ++ [(((6 : Int), (0 : Int), (0 : Int), (0 : Int), ()), (-1 : Int), false, ())]), r2.2.2.2.2.2, r2.2.2.2.1, ())).bind fun r6 =>
 bif (!r6) then
  bif (!((r2.2.2.2.2.1.length : Int) == (0 : Int))) then
   (impl_KernelValid ((r2.1, r2.2.1, r2.2.2.1, ()), r2.2.2.2.2.1, r2.2.2.2.2.2, (0 : Int), ())).bind fun r7 =>
   k (!r7)
  else
  k true
 else
 k false
noncomputable def laws_FnKernelValid (code1 : (List Int)) : Option (Bool) :=
  laws_FnKernelValidK code1 some
theorem laws_FnKernelValid_eq {γ : Type} (code1 : (List Int)) (k : Bool → Option γ) : laws_FnKernelValidK code1 k = (laws_FnKernelValid code1).bind k := by
  simp only [laws_FnKernelValidK, laws_FnKernelValid, B0, B1, B2, B3, B4, B5, B6, B7, B8, C1, C2, C3, C4, C5]

/-! loop.example/capkernel/laws.FnExactSysDelete -/
noncomputable def laws_FnExactSysDeleteK {γ : Type} (aK1 : DKernel) (aSlot2 : Int) (k : Bool → Option γ) : Option γ :=
 (laws_szKernel ((aK1.1.1, aK1.1.2.1, aK1.1.2.2.1, ()), aK1.2.1, aK1.2.2.1, aK1.2.2.2.1, ()) (1048576 : Int)).bind fun r3 =>
 bif decide (r3 < (0 : Int)) then
  k true
 else
 (laws_toKernel ((aK1.1.1, aK1.1.2.1, aK1.1.2.2.1, ()), aK1.2.1, aK1.2.2.1, aK1.2.2.2.1, ())).bind fun r4 =>
 (spec_SysDelete ((r4.1, r4.2.1, r4.2.2.1, ()), r4.2.2.2.2.1, r4.2.2.2.2.2, r4.2.2.2.1, ()) aSlot2).bind fun r5 =>
 (laws_toKernel ((aK1.1.1, aK1.1.2.1, aK1.1.2.2.1, ()), aK1.2.1, aK1.2.2.1, aK1.2.2.2.1, ())).bind fun r6 =>
 (impl_SysDelete ((r6.1, r6.2.1, r6.2.2.1, ()), r6.2.2.2.2.1, r6.2.2.2.2.2, r6.2.2.2.1, ()) aSlot2).bind fun r7 =>
 (laws_eqKernel ((r7.1, r7.2.1, r7.2.2.1, ()), r7.2.2.2.2.2.1, r7.2.2.2.2.2.2, r7.2.2.2.1, ()) ((r5.1, r5.2.1, r5.2.2.1, ()), r5.2.2.2.2.2.1, r5.2.2.2.2.2.2, r5.2.2.2.1, ())).bind fun r8 =>
 bif (!(!r8)) then
  bif (r7.2.2.2.2.1 != r5.2.2.2.2.1) then
   k false
  else
  (laws_toKernel ((aK1.1.1, aK1.1.2.1, aK1.1.2.2.1, ()), aK1.2.1, aK1.2.2.1, aK1.2.2.2.1, ())).bind fun r9 =>
  (laws_eqKernel ((r6.1, r6.2.1, r6.2.2.1, ()), r6.2.2.2.2.1, r6.2.2.2.2.2, r6.2.2.2.1, ()) ((r9.1, r9.2.1, r9.2.2.1, ()), r9.2.2.2.2.1, r9.2.2.2.2.2, r9.2.2.2.1, ())).bind fun r10 =>
  bif (!r10) then
   k false
  else
  (laws_markKernel r6.1 r6.2.1 r6.2.2.1 r6.2.2.2.1 (1 : Int) r6.2.2.2.2.1 r6.2.2.2.2.2).bind fun r11 =>
  bif (!decide (r11.1 < (0 : Int))) then
   (laws_eqKernel ((r7.1, r7.2.1, r7.2.2.1, ()), r7.2.2.2.2.2.1, r7.2.2.2.2.2.2, r7.2.2.2.1, ()) ((r5.1, r5.2.1, r5.2.2.1, ()), r5.2.2.2.2.2.1, r5.2.2.2.2.2.2, r5.2.2.2.1, ())).bind fun r12 =>
   bif (!(!r12)) then
    bif (r7.2.2.2.2.1 != r5.2.2.2.2.1) then
     k false
    else
    (laws_markKernel r7.1 r7.2.1 r7.2.2.1 r7.2.2.2.1 (1 : Int) r7.2.2.2.2.2.1 r7.2.2.2.2.2.2).bind fun r13 =>
    (laws_heldKernel ((r7.1, r7.2.1, r7.2.2.1, ()), r13.2.1, r13.2.2, r7.2.2.2.1, ()) (1 : Int)).bind fun r14 =>
    bif decide (r14 < (0 : Int)) then
     k false
    else
    bif (r14 != r13.1) then
     k false
    else
    (laws_toKernel ((aK1.1.1, aK1.1.2.1, aK1.1.2.2.1, ()), aK1.2.1, aK1.2.2.1, aK1.2.2.2.1, ())).bind fun r15 =>
    (impl_SysDelete ((r15.1, r15.2.1, r15.2.2.1, ()), r15.2.2.2.2.1, r15.2.2.2.2.2, r15.2.2.2.1, ()) aSlot2).bind fun r16 =>
    (laws_eqKernel ((r16.1, r16.2.1, r16.2.2.1, ()), r16.2.2.2.2.2.1, r16.2.2.2.2.2.2, r16.2.2.2.1, ()) ((r5.1, r5.2.1, r5.2.2.1, ()), r5.2.2.2.2.2.1, r5.2.2.2.2.2.2, r5.2.2.2.1, ())).bind fun r17 =>
    bif (!(!r17)) then
     bif (r16.2.2.2.2.1 != r5.2.2.2.2.1) then
      k false
     else
     (laws_heldKernel ((r7.1, r7.2.1, r7.2.2.1, ()), r13.2.1, r13.2.2, r7.2.2.2.1, ()) (1 : Int)).bind fun r18 =>
     bif decide (r18 < (0 : Int)) then
      k false
     else
     bif (r18 != r13.1) then
      k false
     else
     k true
    else
    k false
   else
   k false
  else
  k false
 else
 k false
noncomputable def laws_FnExactSysDelete (aK1 : DKernel) (aSlot2 : Int) : Option (Bool) :=
  laws_FnExactSysDeleteK aK1 aSlot2 some
theorem laws_FnExactSysDelete_eq {γ : Type} (aK1 : DKernel) (aSlot2 : Int) (k : Bool → Option γ) : laws_FnExactSysDeleteK aK1 aSlot2 k = (laws_FnExactSysDelete aK1 aSlot2).bind k := by
  simp only [laws_FnExactSysDeleteK, laws_FnExactSysDelete, B0, B1, B2, B3, B4, B5, B6, B7, B8, C1, C2, C3, C4, C5]

/-! loop.example/capkernel/laws.FnExactSysMint -/
noncomputable def laws_FnExactSysMintK {γ : Type} (aK1 : DKernel) (aFrom2 : Int) (aTo3 : Int) (aRights4 : Int) (aBadge5 : Int) (k : Bool → Option γ) : Option γ :=
 (laws_szKernel ((aK1.1.1, aK1.1.2.1, aK1.1.2.2.1, ()), aK1.2.1, aK1.2.2.1, aK1.2.2.2.1, ()) (1048576 : Int)).bind fun r6 =>
 bif decide (r6 < (0 : Int)) then
  k true
 else
 (laws_toKernel ((aK1.1.1, aK1.1.2.1, aK1.1.2.2.1, ()), aK1.2.1, aK1.2.2.1, aK1.2.2.2.1, ())).bind fun r7 =>
 (spec_SysMint ((r7.1, r7.2.1, r7.2.2.1, ()), r7.2.2.2.2.1, r7.2.2.2.2.2, r7.2.2.2.1, ()) aFrom2 aTo3 aRights4 aBadge5).bind fun r8 =>
 (laws_toKernel ((aK1.1.1, aK1.1.2.1, aK1.1.2.2.1, ()), aK1.2.1, aK1.2.2.1, aK1.2.2.2.1, ())).bind fun r9 =>
 (impl_SysMint ((r9.1, r9.2.1, r9.2.2.1, ()), r9.2.2.2.2.1, r9.2.2.2.2.2, r9.2.2.2.1, ()) aFrom2 aTo3 aRights4 aBadge5).bind fun r10 =>
 (laws_eqKernel ((r10.1, r10.2.1, r10.2.2.1, ()), r10.2.2.2.2.2.1, r10.2.2.2.2.2.2, r10.2.2.2.1, ()) ((r8.1, r8.2.1, r8.2.2.1, ()), r8.2.2.2.2.2.1, r8.2.2.2.2.2.2, r8.2.2.2.1, ())).bind fun r11 =>
 bif (!(!r11)) then
  bif (r10.2.2.2.2.1 != r8.2.2.2.2.1) then
   k false
  else
  (laws_toKernel ((aK1.1.1, aK1.1.2.1, aK1.1.2.2.1, ()), aK1.2.1, aK1.2.2.1, aK1.2.2.2.1, ())).bind fun r12 =>
  (laws_eqKernel ((r9.1, r9.2.1, r9.2.2.1, ()), r9.2.2.2.2.1, r9.2.2.2.2.2, r9.2.2.2.1, ()) ((r12.1, r12.2.1, r12.2.2.1, ()), r12.2.2.2.2.1, r12.2.2.2.2.2, r12.2.2.2.1, ())).bind fun r13 =>
  bif (!r13) then
   k false
  else
  (laws_markKernel r9.1 r9.2.1 r9.2.2.1 r9.2.2.2.1 (1 : Int) r9.2.2.2.2.1 r9.2.2.2.2.2).bind fun r14 =>
  bif (!decide (r14.1 < (0 : Int))) then
   (laws_eqKernel ((r10.1, r10.2.1, r10.2.2.1, ()), r10.2.2.2.2.2.1, r10.2.2.2.2.2.2, r10.2.2.2.1, ()) ((r8.1, r8.2.1, r8.2.2.1, ()), r8.2.2.2.2.2.1, r8.2.2.2.2.2.2, r8.2.2.2.1, ())).bind fun r15 =>
   bif (!(!r15)) then
    bif (r10.2.2.2.2.1 != r8.2.2.2.2.1) then
     k false
    else
    (laws_markKernel r10.1 r10.2.1 r10.2.2.1 r10.2.2.2.1 (1 : Int) r10.2.2.2.2.2.1 r10.2.2.2.2.2.2).bind fun r16 =>
    (laws_heldKernel ((r10.1, r10.2.1, r10.2.2.1, ()), r16.2.1, r16.2.2, r10.2.2.2.1, ()) (1 : Int)).bind fun r17 =>
    bif decide (r17 < (0 : Int)) then
     k false
    else
    bif (r17 != r16.1) then
     k false
    else
    (laws_toKernel ((aK1.1.1, aK1.1.2.1, aK1.1.2.2.1, ()), aK1.2.1, aK1.2.2.1, aK1.2.2.2.1, ())).bind fun r18 =>
    (impl_SysMint ((r18.1, r18.2.1, r18.2.2.1, ()), r18.2.2.2.2.1, r18.2.2.2.2.2, r18.2.2.2.1, ()) aFrom2 aTo3 aRights4 aBadge5).bind fun r19 =>
    (laws_eqKernel ((r19.1, r19.2.1, r19.2.2.1, ()), r19.2.2.2.2.2.1, r19.2.2.2.2.2.2, r19.2.2.2.1, ()) ((r8.1, r8.2.1, r8.2.2.1, ()), r8.2.2.2.2.2.1, r8.2.2.2.2.2.2, r8.2.2.2.1, ())).bind fun r20 =>
    bif (!(!r20)) then
     bif (r19.2.2.2.2.1 != r8.2.2.2.2.1) then
      k false
     else
     (laws_heldKernel ((r10.1, r10.2.1, r10.2.2.1, ()), r16.2.1, r16.2.2, r10.2.2.2.1, ()) (1 : Int)).bind fun r21 =>
     bif decide (r21 < (0 : Int)) then
      k false
     else
     bif (r21 != r16.1) then
      k false
     else
     k true
    else
    k false
   else
   k false
  else
  k false
 else
 k false
noncomputable def laws_FnExactSysMint (aK1 : DKernel) (aFrom2 : Int) (aTo3 : Int) (aRights4 : Int) (aBadge5 : Int) : Option (Bool) :=
  laws_FnExactSysMintK aK1 aFrom2 aTo3 aRights4 aBadge5 some
theorem laws_FnExactSysMint_eq {γ : Type} (aK1 : DKernel) (aFrom2 : Int) (aTo3 : Int) (aRights4 : Int) (aBadge5 : Int) (k : Bool → Option γ) : laws_FnExactSysMintK aK1 aFrom2 aTo3 aRights4 aBadge5 k = (laws_FnExactSysMint aK1 aFrom2 aTo3 aRights4 aBadge5).bind k := by
  simp only [laws_FnExactSysMintK, laws_FnExactSysMint, B0, B1, B2, B3, B4, B5, B6, B7, B8, C1, C2, C3, C4, C5]

/-! loop.example/capkernel/laws.FnExactSysRevoke -/
noncomputable def laws_FnExactSysRevokeK {γ : Type} (aK1 : DKernel) (aSlot2 : Int) (k : Bool → Option γ) : Option γ :=
 (laws_szKernel ((aK1.1.1, aK1.1.2.1, aK1.1.2.2.1, ()), aK1.2.1, aK1.2.2.1, aK1.2.2.2.1, ()) (1048576 : Int)).bind fun r3 =>
 bif decide (r3 < (0 : Int)) then
  k true
 else
 (laws_toKernel ((aK1.1.1, aK1.1.2.1, aK1.1.2.2.1, ()), aK1.2.1, aK1.2.2.1, aK1.2.2.2.1, ())).bind fun r4 =>
 (spec_SysRevoke ((r4.1, r4.2.1, r4.2.2.1, ()), r4.2.2.2.2.1, r4.2.2.2.2.2, r4.2.2.2.1, ()) aSlot2).bind fun r5 =>
 (laws_toKernel ((aK1.1.1, aK1.1.2.1, aK1.1.2.2.1, ()), aK1.2.1, aK1.2.2.1, aK1.2.2.2.1, ())).bind fun r6 =>
 (impl_SysRevoke ((r6.1, r6.2.1, r6.2.2.1, ()), r6.2.2.2.2.1, r6.2.2.2.2.2, r6.2.2.2.1, ()) aSlot2).bind fun r7 =>
 (laws_eqKernel ((r7.1, r7.2.1, r7.2.2.1, ()), r7.2.2.2.2.2.1, r7.2.2.2.2.2.2, r7.2.2.2.1, ()) ((r5.1, r5.2.1, r5.2.2.1, ()), r5.2.2.2.2.2.1, r5.2.2.2.2.2.2, r5.2.2.2.1, ())).bind fun r8 =>
 bif (!(!r8)) then
  bif (r7.2.2.2.2.1 != r5.2.2.2.2.1) then
   k false
  else
  (laws_toKernel ((aK1.1.1, aK1.1.2.1, aK1.1.2.2.1, ()), aK1.2.1, aK1.2.2.1, aK1.2.2.2.1, ())).bind fun r9 =>
  (laws_eqKernel ((r6.1, r6.2.1, r6.2.2.1, ()), r6.2.2.2.2.1, r6.2.2.2.2.2, r6.2.2.2.1, ()) ((r9.1, r9.2.1, r9.2.2.1, ()), r9.2.2.2.2.1, r9.2.2.2.2.2, r9.2.2.2.1, ())).bind fun r10 =>
  bif (!r10) then
   k false
  else
  (laws_markKernel r6.1 r6.2.1 r6.2.2.1 r6.2.2.2.1 (1 : Int) r6.2.2.2.2.1 r6.2.2.2.2.2).bind fun r11 =>
  bif (!decide (r11.1 < (0 : Int))) then
   (laws_eqKernel ((r7.1, r7.2.1, r7.2.2.1, ()), r7.2.2.2.2.2.1, r7.2.2.2.2.2.2, r7.2.2.2.1, ()) ((r5.1, r5.2.1, r5.2.2.1, ()), r5.2.2.2.2.2.1, r5.2.2.2.2.2.2, r5.2.2.2.1, ())).bind fun r12 =>
   bif (!(!r12)) then
    bif (r7.2.2.2.2.1 != r5.2.2.2.2.1) then
     k false
    else
    (laws_markKernel r7.1 r7.2.1 r7.2.2.1 r7.2.2.2.1 (1 : Int) r7.2.2.2.2.2.1 r7.2.2.2.2.2.2).bind fun r13 =>
    (laws_heldKernel ((r7.1, r7.2.1, r7.2.2.1, ()), r13.2.1, r13.2.2, r7.2.2.2.1, ()) (1 : Int)).bind fun r14 =>
    bif decide (r14 < (0 : Int)) then
     k false
    else
    bif (r14 != r13.1) then
     k false
    else
    (laws_toKernel ((aK1.1.1, aK1.1.2.1, aK1.1.2.2.1, ()), aK1.2.1, aK1.2.2.1, aK1.2.2.2.1, ())).bind fun r15 =>
    (impl_SysRevoke ((r15.1, r15.2.1, r15.2.2.1, ()), r15.2.2.2.2.1, r15.2.2.2.2.2, r15.2.2.2.1, ()) aSlot2).bind fun r16 =>
    (laws_eqKernel ((r16.1, r16.2.1, r16.2.2.1, ()), r16.2.2.2.2.2.1, r16.2.2.2.2.2.2, r16.2.2.2.1, ()) ((r5.1, r5.2.1, r5.2.2.1, ()), r5.2.2.2.2.2.1, r5.2.2.2.2.2.2, r5.2.2.2.1, ())).bind fun r17 =>
    bif (!(!r17)) then
     bif (r16.2.2.2.2.1 != r5.2.2.2.2.1) then
      k false
     else
     (laws_heldKernel ((r7.1, r7.2.1, r7.2.2.1, ()), r13.2.1, r13.2.2, r7.2.2.2.1, ()) (1 : Int)).bind fun r18 =>
     bif decide (r18 < (0 : Int)) then
      k false
     else
     bif (r18 != r13.1) then
      k false
     else
     k true
    else
    k false
   else
   k false
  else
  k false
 else
 k false
noncomputable def laws_FnExactSysRevoke (aK1 : DKernel) (aSlot2 : Int) : Option (Bool) :=
  laws_FnExactSysRevokeK aK1 aSlot2 some
theorem laws_FnExactSysRevoke_eq {γ : Type} (aK1 : DKernel) (aSlot2 : Int) (k : Bool → Option γ) : laws_FnExactSysRevokeK aK1 aSlot2 k = (laws_FnExactSysRevoke aK1 aSlot2).bind k := by
  simp only [laws_FnExactSysRevokeK, laws_FnExactSysRevoke, B0, B1, B2, B3, B4, B5, B6, B7, B8, C1, C2, C3, C4, C5]

/-! loop.example/capkernel/laws.FnExactSysRetype -/
noncomputable def laws_FnExactSysRetypeK {γ : Type} (aK1 : DKernel) (aKind2 : Int) (aSlot3 : Int) (k : Bool → Option γ) : Option γ :=
 (laws_szKernel ((aK1.1.1, aK1.1.2.1, aK1.1.2.2.1, ()), aK1.2.1, aK1.2.2.1, aK1.2.2.2.1, ()) (1048576 : Int)).bind fun r4 =>
 bif decide (r4 < (0 : Int)) then
  k true
 else
 (laws_toKernel ((aK1.1.1, aK1.1.2.1, aK1.1.2.2.1, ()), aK1.2.1, aK1.2.2.1, aK1.2.2.2.1, ())).bind fun r5 =>
 (spec_SysRetype ((r5.1, r5.2.1, r5.2.2.1, ()), r5.2.2.2.2.1, r5.2.2.2.2.2, r5.2.2.2.1, ()) aKind2 aSlot3).bind fun r6 =>
 (laws_toKernel ((aK1.1.1, aK1.1.2.1, aK1.1.2.2.1, ()), aK1.2.1, aK1.2.2.1, aK1.2.2.2.1, ())).bind fun r7 =>
 (impl_SysRetype ((r7.1, r7.2.1, r7.2.2.1, ()), r7.2.2.2.2.1, r7.2.2.2.2.2, r7.2.2.2.1, ()) aKind2 aSlot3).bind fun r8 =>
 (laws_eqKernel ((r8.1, r8.2.1, r8.2.2.1, ()), r8.2.2.2.2.2.1, r8.2.2.2.2.2.2, r8.2.2.2.1, ()) ((r6.1, r6.2.1, r6.2.2.1, ()), r6.2.2.2.2.2.1, r6.2.2.2.2.2.2, r6.2.2.2.1, ())).bind fun r9 =>
 bif (!(!r9)) then
  bif (r8.2.2.2.2.1 != r6.2.2.2.2.1) then
   k false
  else
  (laws_toKernel ((aK1.1.1, aK1.1.2.1, aK1.1.2.2.1, ()), aK1.2.1, aK1.2.2.1, aK1.2.2.2.1, ())).bind fun r10 =>
  (laws_eqKernel ((r7.1, r7.2.1, r7.2.2.1, ()), r7.2.2.2.2.1, r7.2.2.2.2.2, r7.2.2.2.1, ()) ((r10.1, r10.2.1, r10.2.2.1, ()), r10.2.2.2.2.1, r10.2.2.2.2.2, r10.2.2.2.1, ())).bind fun r11 =>
  bif (!r11) then
   k false
  else
  (laws_markKernel r7.1 r7.2.1 r7.2.2.1 r7.2.2.2.1 (1 : Int) r7.2.2.2.2.1 r7.2.2.2.2.2).bind fun r12 =>
  bif (!decide (r12.1 < (0 : Int))) then
   (laws_eqKernel ((r8.1, r8.2.1, r8.2.2.1, ()), r8.2.2.2.2.2.1, r8.2.2.2.2.2.2, r8.2.2.2.1, ()) ((r6.1, r6.2.1, r6.2.2.1, ()), r6.2.2.2.2.2.1, r6.2.2.2.2.2.2, r6.2.2.2.1, ())).bind fun r13 =>
   bif (!(!r13)) then
    bif (r8.2.2.2.2.1 != r6.2.2.2.2.1) then
     k false
    else
    (laws_markKernel r8.1 r8.2.1 r8.2.2.1 r8.2.2.2.1 (1 : Int) r8.2.2.2.2.2.1 r8.2.2.2.2.2.2).bind fun r14 =>
    (laws_heldKernel ((r8.1, r8.2.1, r8.2.2.1, ()), r14.2.1, r14.2.2, r8.2.2.2.1, ()) (1 : Int)).bind fun r15 =>
    bif decide (r15 < (0 : Int)) then
     k false
    else
    bif (r15 != r14.1) then
     k false
    else
    (laws_toKernel ((aK1.1.1, aK1.1.2.1, aK1.1.2.2.1, ()), aK1.2.1, aK1.2.2.1, aK1.2.2.2.1, ())).bind fun r16 =>
    (impl_SysRetype ((r16.1, r16.2.1, r16.2.2.1, ()), r16.2.2.2.2.1, r16.2.2.2.2.2, r16.2.2.2.1, ()) aKind2 aSlot3).bind fun r17 =>
    (laws_eqKernel ((r17.1, r17.2.1, r17.2.2.1, ()), r17.2.2.2.2.2.1, r17.2.2.2.2.2.2, r17.2.2.2.1, ()) ((r6.1, r6.2.1, r6.2.2.1, ()), r6.2.2.2.2.2.1, r6.2.2.2.2.2.2, r6.2.2.2.1, ())).bind fun r18 =>
    bif (!(!r18)) then
     bif (r17.2.2.2.2.1 != r6.2.2.2.2.1) then
      k false
     else
     (laws_heldKernel ((r8.1, r8.2.1, r8.2.2.1, ()), r14.2.1, r14.2.2, r8.2.2.2.1, ()) (1 : Int)).bind fun r19 =>
     bif decide (r19 < (0 : Int)) then
      k false
     else
     bif (r19 != r14.1) then
      k false
     else
     k true
    else
    k false
   else
   k false
  else
  k false
 else
 k false
noncomputable def laws_FnExactSysRetype (aK1 : DKernel) (aKind2 : Int) (aSlot3 : Int) : Option (Bool) :=
  laws_FnExactSysRetypeK aK1 aKind2 aSlot3 some
theorem laws_FnExactSysRetype_eq {γ : Type} (aK1 : DKernel) (aKind2 : Int) (aSlot3 : Int) (k : Bool → Option γ) : laws_FnExactSysRetypeK aK1 aKind2 aSlot3 k = (laws_FnExactSysRetype aK1 aKind2 aSlot3).bind k := by
  simp only [laws_FnExactSysRetypeK, laws_FnExactSysRetype, B0, B1, B2, B3, B4, B5, B6, B7, B8, C1, C2, C3, C4, C5]

/-! loop.example/capkernel/laws.FnSysDelete -/
noncomputable def laws_FnSysDelete_l0K {γ : Type} (slot10 : Int) (sq11 : Int) (b12 : Int) (b13 : Int) (b14 : Int) (b15 : (List DEntry)) (b16 : (List Int)) (b17 : Int) (b18 : Int) (b19 : Int) (b20 : Int) (b21 : (List DEntry)) (b22 : (List Int)) (b23 : Int) (kn : Int × Int × Int × Int × Int × (List DEntry) × (List Int) × Int × Int × Int × Int × (List DEntry) × (List Int) × Int × Unit → Option γ) (kx : Int × Int × Int × Int × (List DEntry) × (List Int) × Int × Int × Int × Int × (List DEntry) × (List Int) × Int × Unit → Option γ) (kr : Bool × Unit → Option γ) : Option γ :=
 bif decide (sq11 < (b16.length : Int)) then
  bif (sq11 != slot10) then
   nnK sq11 fun i24 =>
   getK b22 i24 fun v25 =>
   nnK sq11 fun i26 =>
   getK b16 i26 fun v27 =>
   bif (v25 != v27) then
    kr (false, ())
   else
   kn (slot10, (IntKind.wrap .i64 (sq11 + (1 : Int))), b12, b13, b14, b15, b16, b17, b18, b19, b20, b21, b22, b23, ())
  else
  kn (slot10, (IntKind.wrap .i64 (sq11 + (1 : Int))), b12, b13, b14, b15, b16, b17, b18, b19, b20, b21, b22, b23, ())
 else
 kx (slot10, b12, b13, b14, b15, b16, b17, b18, b19, b20, b21, b22, b23, ())
noncomputable def laws_FnSysDelete_l0 (x : Int × Int × Int × Int × Int × (List DEntry) × (List Int) × Int × Int × Int × Int × (List DEntry) × (List Int) × Int × Unit) : Option ((Int × Int × Int × Int × Int × (List DEntry) × (List Int) × Int × Int × Int × Int × (List DEntry) × (List Int) × Int × Unit) ⊕ ((Int × Int × Int × Int × (List DEntry) × (List Int) × Int × Int × Int × Int × (List DEntry) × (List Int) × Int × Unit) ⊕ (Bool × Unit))) :=
  laws_FnSysDelete_l0K x.1 x.2.1 x.2.2.1 x.2.2.2.1 x.2.2.2.2.1 x.2.2.2.2.2.1 x.2.2.2.2.2.2.1 x.2.2.2.2.2.2.2.1 x.2.2.2.2.2.2.2.2.1 x.2.2.2.2.2.2.2.2.2.1 x.2.2.2.2.2.2.2.2.2.2.1 x.2.2.2.2.2.2.2.2.2.2.2.1 x.2.2.2.2.2.2.2.2.2.2.2.2.1 x.2.2.2.2.2.2.2.2.2.2.2.2.2.1 (fun y => some (.inl y)) (fun a => some (.inr (.inl a))) (fun b => some (.inr (.inr b)))
theorem laws_FnSysDelete_l0_eq {γ : Type} (slot10 : Int) (sq11 : Int) (b12 : Int) (b13 : Int) (b14 : Int) (b15 : (List DEntry)) (b16 : (List Int)) (b17 : Int) (b18 : Int) (b19 : Int) (b20 : Int) (b21 : (List DEntry)) (b22 : (List Int)) (b23 : Int) (kn : Int × Int × Int × Int × Int × (List DEntry) × (List Int) × Int × Int × Int × Int × (List DEntry) × (List Int) × Int × Unit → Option γ) (kx : Int × Int × Int × Int × (List DEntry) × (List Int) × Int × Int × Int × Int × (List DEntry) × (List Int) × Int × Unit → Option γ) (kr : Bool × Unit → Option γ) : laws_FnSysDelete_l0K slot10 sq11 b12 b13 b14 b15 b16 b17 b18 b19 b20 b21 b22 b23 kn kx kr = (laws_FnSysDelete_l0 (slot10, sq11, b12, b13, b14, b15, b16, b17, b18, b19, b20, b21, b22, b23, ())).bind fun r => sum3K r kn kx kr := by
  simp only [laws_FnSysDelete_l0K, laws_FnSysDelete_l0, B0, B1, B2, B3, B4, B5, B6, B7, B8, C1, C2, C3, C4, C5]
noncomputable def laws_FnSysDeleteK {γ : Type} (code1 : (List Int)) (k : Bool → Option γ) : Option γ :=
 bif decide ((code1.length : Int) > (1048576 : Int)) then
  k true
 else
 (spec_DrawSysDelete code1).bind fun r2 =>
 (impl_SysDelete ((r2.1, r2.2.1, r2.2.2.1, ()), r2.2.2.2.2.2.1, r2.2.2.2.2.2.2, r2.2.2.2.1, ()) r2.2.2.2.2.1).bind fun r3 =>
 (spec_SysDelete ((r2.1, r2.2.1, r2.2.2.1, ()), r2.2.2.2.2.2.1, r2.2.2.2.2.2.2, r2.2.2.2.1, ()) r2.2.2.2.2.1).bind fun r4 =>
 (laws_sameKernel ((r3.1, r3.2.1, r3.2.2.1, ()), r3.2.2.2.2.2.1, r3.2.2.2.2.2.2, r3.2.2.2.1, ()) ((r4.1, r4.2.1, r4.2.2.1, ()), r4.2.2.2.2.2.1, r4.2.2.2.2.2.2, r4.2.2.2.1, ())).bind fun r5 =>
 bif (!(!r5)) then
  bif (r3.2.2.2.2.1 != r4.2.2.2.2.1) then
   k false
  else
  bif (r3.2.2.2.2.1 != (0 : Int)) then
   (laws_sameKernel ((r3.1, r3.2.1, r3.2.2.1, ()), r3.2.2.2.2.2.1, r3.2.2.2.2.2.2, r3.2.2.2.1, ()) ((r2.1, r2.2.1, r2.2.2.1, ()), r2.2.2.2.2.2.1, r2.2.2.2.2.2.2, r2.2.2.2.1, ())).bind fun r6 =>
   bif (!r6) then
    (spec_KernelValid ((r2.1, r2.2.1, r2.2.2.1, ()), r2.2.2.2.2.2.1, r2.2.2.2.2.2.2, r2.2.2.2.1, ())).bind fun r7 =>
    bif (!r7) then
     (laws_alive).bind fun r8 =>
     k r8
    else
    k false
   else
   (laws_alive).bind fun r9 =>
   k r9
  else
  (loopF laws_FnSysDelete_l0 (r2.2.2.2.2.1, (0 : Int), r2.1, r2.2.1, r2.2.2.1, r2.2.2.2.2.2.1, r2.2.2.2.2.2.2, r2.2.2.2.1, r3.1, r3.2.1, r3.2.2.1, r3.2.2.2.2.2.1, r3.2.2.2.2.2.2, r3.2.2.2.1, ())).bind fun q => endK q (fun z28 =>
   (impl_KernelValid ((z28.2.2.2.2.2.2.2.1, z28.2.2.2.2.2.2.2.2.1, z28.2.2.2.2.2.2.2.2.2.1, ()), z28.2.2.2.2.2.2.2.2.2.2.1, z28.2.2.2.2.2.2.2.2.2.2.2.1, z28.2.2.2.2.2.2.2.2.2.2.2.2.1, ())).bind fun r30 =>
   bif r30 then
    nnK z28.1 fun i31 =>
    getK z28.2.2.2.2.2.2.2.2.2.2.2.1 i31 fun v32 =>
    bif (v32 == (-1 : Int)) then
     nnK z28.1 fun i33 =>
     getK z28.2.2.2.2.2.1 i33 fun v34 =>
     nnK v34 fun i35 =>
     getK z28.2.2.2.2.2.2.2.2.2.2.1 i35 fun v36 =>
     k v36.2.2.1
    else
    k false
   else
   k false) (fun z29 =>
   k z29.1)
 else
 k false
noncomputable def laws_FnSysDelete (code1 : (List Int)) : Option (Bool) :=
  laws_FnSysDeleteK code1 some
theorem laws_FnSysDelete_eq {γ : Type} (code1 : (List Int)) (k : Bool → Option γ) : laws_FnSysDeleteK code1 k = (laws_FnSysDelete code1).bind k := by
  simp only [laws_FnSysDeleteK, laws_FnSysDelete, B0, B1, B2, B3, B4, B5, B6, B7, B8, C1, C2, C3, C4, C5]

/-! loop.example/capkernel/spec.DrawSysMove -/
noncomputable def spec_DrawSysMoveK {γ : Type} (code1 : (List Int)) (k : Int × Int × Int × Int × Int × Int × (List DEntry) × (List Int) → Option γ) : Option γ :=
 (spec_l20Open code1).bind fun r2 =>
 (spec_l20Kernel (14 : Int) r2).bind fun r3 =>
 (spec_l20Site r3.1 r3.2.1 r3.2.2.1 r3.2.2.2.1 r3.2.2.2.2.1 r3.2.2.2.2.2.1 r3.2.2.2.2.2.2).bind fun r4 =>
 (spec_l20Site r3.1 r3.2.1 r3.2.2.1 r3.2.2.2.1 r4.2.1 r4.2.2.1 r4.2.2.2).bind fun r5 =>
 k (r3.1, r3.2.1, r3.2.2.1, r3.2.2.2.1, r4.1, r5.1, r5.2.2.1, r5.2.2.2)
noncomputable def spec_DrawSysMove (code1 : (List Int)) : Option (Int × Int × Int × Int × Int × Int × (List DEntry) × (List Int)) :=
  spec_DrawSysMoveK code1 some
theorem spec_DrawSysMove_eq {γ : Type} (code1 : (List Int)) (k : Int × Int × Int × Int × Int × Int × (List DEntry) × (List Int) → Option γ) : spec_DrawSysMoveK code1 k = (spec_DrawSysMove code1).bind k := by
  simp only [spec_DrawSysMoveK, spec_DrawSysMove, B0, B1, B2, B3, B4, B5, B6, B7, B8, C1, C2, C3, C4, C5]

/-! loop.example/capkernel/laws.FnSysMove -/
noncomputable def laws_FnSysMoveK {γ : Type} (code1 : (List Int)) (k : Bool → Option γ) : Option γ :=
 bif decide ((code1.length : Int) > (1048576 : Int)) then
  k true
 else
 (spec_DrawSysMove code1).bind fun r2 =>
 (impl_SysMove ((r2.1, r2.2.1, r2.2.2.1, ()), r2.2.2.2.2.2.2.1, r2.2.2.2.2.2.2.2, r2.2.2.2.1, ()) r2.2.2.2.2.1 r2.2.2.2.2.2.1).bind fun r3 =>
 (spec_SysMove ((r2.1, r2.2.1, r2.2.2.1, ()), r2.2.2.2.2.2.2.1, r2.2.2.2.2.2.2.2, r2.2.2.2.1, ()) r2.2.2.2.2.1 r2.2.2.2.2.2.1).bind fun r4 =>
 (laws_sameKernel ((r3.1, r3.2.1, r3.2.2.1, ()), r3.2.2.2.2.2.1, r3.2.2.2.2.2.2, r3.2.2.2.1, ()) ((r4.1, r4.2.1, r4.2.2.1, ()), r4.2.2.2.2.2.1, r4.2.2.2.2.2.2, r4.2.2.2.1, ())).bind fun r5 =>
 bif (!(!r5)) then
  bif (r3.2.2.2.2.1 != r4.2.2.2.2.1) then
   k false
  else
  bif (r3.2.2.2.2.1 != (0 : Int)) then
   (laws_sameKernel ((r3.1, r3.2.1, r3.2.2.1, ()), r3.2.2.2.2.2.1, r3.2.2.2.2.2.2, r3.2.2.2.1, ()) ((r2.1, r2.2.1, r2.2.2.1, ()), r2.2.2.2.2.2.2.1, r2.2.2.2.2.2.2.2, r2.2.2.2.1, ())).bind fun r6 =>
   bif (!r6) then
    (spec_KernelValid ((r2.1, r2.2.1, r2.2.2.1, ()), r2.2.2.2.2.2.2.1, r2.2.2.2.2.2.2.2, r2.2.2.2.1, ())).bind fun r7 =>
    bif (!r7) then
     (laws_alive).bind fun r8 =>
     k r8
    else
    k false
   else
   (laws_alive).bind fun r9 =>
   k r9
  else
  (impl_SysMove ((r3.1, r3.2.1, r3.2.2.1, ()), r3.2.2.2.2.2.1, r3.2.2.2.2.2.2, r3.2.2.2.1, ()) r2.2.2.2.2.2.1 r2.2.2.2.2.1).bind fun r10 =>
  (impl_KernelValid ((r3.1, r3.2.1, r3.2.2.1, ()), r3.2.2.2.2.2.1, r3.2.2.2.2.2.2, r3.2.2.2.1, ())).bind fun r11 =>
  bif r11 then
   (laws_sameTree r3.2.2.2.2.2.1 r2.2.2.2.2.2.2.1).bind fun r12 =>
   bif r12 then
    nnK r2.2.2.2.2.2.1 fun i13 =>
    getK r3.2.2.2.2.2.2 i13 fun v14 =>
    nnK r2.2.2.2.2.1 fun i15 =>
    getK r2.2.2.2.2.2.2.2 i15 fun v16 =>
    bif (v14 == v16) then
     nnK r2.2.2.2.2.1 fun i17 =>
     getK r3.2.2.2.2.2.2 i17 fun v18 =>
     bif (v18 == (-1 : Int)) then
      bif (r10.2.2.2.2.1 == (0 : Int)) then
       (laws_sameKernel ((r10.1, r10.2.1, r10.2.2.1, ()), r10.2.2.2.2.2.1, r10.2.2.2.2.2.2, r10.2.2.2.1, ()) ((r2.1, r2.2.1, r2.2.2.1, ()), r2.2.2.2.2.2.2.1, r2.2.2.2.2.2.2.2, r2.2.2.2.1, ())).bind fun r19 =>
       k r19
      else
      k false
     else
     k false
    else
    k false
   else
   k false
  else
  k false
 else
 k false
noncomputable def laws_FnSysMove (code1 : (List Int)) : Option (Bool) :=
  laws_FnSysMoveK code1 some
theorem laws_FnSysMove_eq {γ : Type} (code1 : (List Int)) (k : Bool → Option γ) : laws_FnSysMoveK code1 k = (laws_FnSysMove code1).bind k := by
  simp only [laws_FnSysMoveK, laws_FnSysMove, B0, B1, B2, B3, B4, B5, B6, B7, B8, C1, C2, C3, C4, C5]

/-! loop.example/capkernel/impl.Descendants -/
noncomputable def impl_DescendantsK {γ : Type} (d1 : (List DEntry)) (n2 : Int) (k : (List Int) → Option γ) : Option γ :=
 (impl_alive d1 n2).bind fun r3 =>
 bif (!r3) then
  k []
 else
 (impl_descendants d1 n2).bind fun r4 =>
 k r4
noncomputable def impl_Descendants (d1 : (List DEntry)) (n2 : Int) : Option ((List Int)) :=
  impl_DescendantsK d1 n2 some
theorem impl_Descendants_eq {γ : Type} (d1 : (List DEntry)) (n2 : Int) (k : (List Int) → Option γ) : impl_DescendantsK d1 n2 k = (impl_Descendants d1 n2).bind k := by
  simp only [impl_DescendantsK, impl_Descendants, B0, B1, B2, B3, B4, B5, B6, B7, B8, C1, C2, C3, C4, C5]

/-! loop.example/capkernel/laws.FnSysRevoke -/
noncomputable def laws_FnSysRevoke_l2K {γ : Type} (slot33 : Int) (list34 : (List Int)) (emptied35 : Int) (sq36 : Int) (inq37 : Bool) (j38 : Int) (b39 : Int) (b40 : Int) (b41 : Int) (b42 : (List DEntry)) (b43 : (List Int)) (b44 : Int) (b45 : Int) (b46 : Int) (b47 : Int) (b48 : (List DEntry)) (b49 : (List Int)) (b50 : Int) (kn : Int × (List Int) × Int × Int × Bool × Int × Int × Int × Int × (List DEntry) × (List Int) × Int × Int × Int × Int × (List DEntry) × (List Int) × Int × Unit → Option γ) (kx : Int × (List Int) × Int × Int × Bool × Int × Int × Int × (List DEntry) × (List Int) × Int × Int × Int × Int × (List DEntry) × (List Int) × Int × Unit → Option γ) : Option γ :=
 bif decide (j38 < (list34.length : Int)) then
  bif (!inq37) then
   nnK j38 fun i51 =>
   getK list34 i51 fun v52 =>
   nnK sq36 fun i53 =>
   getK b43 i53 fun v54 =>
   kn (slot33, list34, emptied35, sq36, (v52 == v54), (IntKind.wrap .i64 (j38 + (1 : Int))), b39, b40, b41, b42, b43, b44, b45, b46, b47, b48, b49, b50, ())
  else
  kn (slot33, list34, emptied35, sq36, true, (IntKind.wrap .i64 (j38 + (1 : Int))), b39, b40, b41, b42, b43, b44, b45, b46, b47, b48, b49, b50, ())
 else
 kx (slot33, list34, emptied35, sq36, inq37, b39, b40, b41, b42, b43, b44, b45, b46, b47, b48, b49, b50, ())
noncomputable def laws_FnSysRevoke_l2 (x : Int × (List Int) × Int × Int × Bool × Int × Int × Int × Int × (List DEntry) × (List Int) × Int × Int × Int × Int × (List DEntry) × (List Int) × Int × Unit) : Option ((Int × (List Int) × Int × Int × Bool × Int × Int × Int × Int × (List DEntry) × (List Int) × Int × Int × Int × Int × (List DEntry) × (List Int) × Int × Unit) ⊕ (Int × (List Int) × Int × Int × Bool × Int × Int × Int × (List DEntry) × (List Int) × Int × Int × Int × Int × (List DEntry) × (List Int) × Int × Unit)) :=
  laws_FnSysRevoke_l2K x.1 x.2.1 x.2.2.1 x.2.2.2.1 x.2.2.2.2.1 x.2.2.2.2.2.1 x.2.2.2.2.2.2.1 x.2.2.2.2.2.2.2.1 x.2.2.2.2.2.2.2.2.1 x.2.2.2.2.2.2.2.2.2.1 x.2.2.2.2.2.2.2.2.2.2.1 x.2.2.2.2.2.2.2.2.2.2.2.1 x.2.2.2.2.2.2.2.2.2.2.2.2.1 x.2.2.2.2.2.2.2.2.2.2.2.2.2.1 x.2.2.2.2.2.2.2.2.2.2.2.2.2.2.1 x.2.2.2.2.2.2.2.2.2.2.2.2.2.2.2.1 x.2.2.2.2.2.2.2.2.2.2.2.2.2.2.2.2.1 x.2.2.2.2.2.2.2.2.2.2.2.2.2.2.2.2.2.1 (fun y => some (.inl y)) (fun a => some (.inr a))
theorem laws_FnSysRevoke_l2_eq {γ : Type} (slot33 : Int) (list34 : (List Int)) (emptied35 : Int) (sq36 : Int) (inq37 : Bool) (j38 : Int) (b39 : Int) (b40 : Int) (b41 : Int) (b42 : (List DEntry)) (b43 : (List Int)) (b44 : Int) (b45 : Int) (b46 : Int) (b47 : Int) (b48 : (List DEntry)) (b49 : (List Int)) (b50 : Int) (kn : Int × (List Int) × Int × Int × Bool × Int × Int × Int × Int × (List DEntry) × (List Int) × Int × Int × Int × Int × (List DEntry) × (List Int) × Int × Unit → Option γ) (kx : Int × (List Int) × Int × Int × Bool × Int × Int × Int × (List DEntry) × (List Int) × Int × Int × Int × Int × (List DEntry) × (List Int) × Int × Unit → Option γ) : laws_FnSysRevoke_l2K slot33 list34 emptied35 sq36 inq37 j38 b39 b40 b41 b42 b43 b44 b45 b46 b47 b48 b49 b50 kn kx = (laws_FnSysRevoke_l2 (slot33, list34, emptied35, sq36, inq37, j38, b39, b40, b41, b42, b43, b44, b45, b46, b47, b48, b49, b50, ())).bind fun r => sum2K r kn kx := by
  simp only [laws_FnSysRevoke_l2K, laws_FnSysRevoke_l2, B0, B1, B2, B3, B4, B5, B6, B7, B8, C1, C2, C3, C4, C5]
noncomputable def laws_FnSysRevoke_l0K {γ : Type} (slot13 : Int) (list14 : (List Int)) (emptied15 : Int) (sq16 : Int) (b17 : Int) (b18 : Int) (b19 : Int) (b20 : (List DEntry)) (b21 : (List Int)) (b22 : Int) (b23 : Int) (b24 : Int) (b25 : Int) (b26 : (List DEntry)) (b27 : (List Int)) (b28 : Int) (kn : Int × (List Int) × Int × Int × Int × Int × Int × (List DEntry) × (List Int) × Int × Int × Int × Int × (List DEntry) × (List Int) × Int × Unit → Option γ) (kx : Int × (List Int) × Int × Int × Int × Int × (List DEntry) × (List Int) × Int × Int × Int × Int × (List DEntry) × (List Int) × Int × Unit → Option γ) (kr : Bool × Unit → Option γ) : Option γ :=
 bif decide (sq16 < (b21.length : Int)) then
  nnK sq16 fun i29 =>
  getK b27 i29 fun v30 =>
  nnK sq16 fun i31 =>
  getK b21 i31 fun v32 =>
  bif (v30 != v32) then
   (loopF laws_FnSysRevoke_l2 (slot13, list14, (IntKind.wrap .i64 (emptied15 + (1 : Int))), sq16, false, (0 : Int), b17, b18, b19, b20, b21, b22, b23, b24, b25, b26, b27, b28, ())).bind fun z55 =>
   nnK z55.2.2.2.1 fun i56 =>
   getK z55.2.2.2.2.2.2.2.2.2.2.2.2.2.2.2.1 i56 fun v57 =>
   bif (!(v57 != (-1 : Int))) then
    bif (!z55.2.2.2.2.1) then
     kr (false, ())
    else
    kn (z55.1, z55.2.1, z55.2.2.1, (IntKind.wrap .i64 (z55.2.2.2.1 + (1 : Int))), z55.2.2.2.2.2.1, z55.2.2.2.2.2.2.1, z55.2.2.2.2.2.2.2.1, z55.2.2.2.2.2.2.2.2.1, z55.2.2.2.2.2.2.2.2.2.1, z55.2.2.2.2.2.2.2.2.2.2.1, z55.2.2.2.2.2.2.2.2.2.2.2.1, z55.2.2.2.2.2.2.2.2.2.2.2.2.1, z55.2.2.2.2.2.2.2.2.2.2.2.2.2.1, z55.2.2.2.2.2.2.2.2.2.2.2.2.2.2.1, z55.2.2.2.2.2.2.2.2.2.2.2.2.2.2.2.1, z55.2.2.2.2.2.2.2.2.2.2.2.2.2.2.2.2.1, ())
   else
   kr (false, ())
  else
  kn (slot13, list14, emptied15, (IntKind.wrap .i64 (sq16 + (1 : Int))), b17, b18, b19, b20, b21, b22, b23, b24, b25, b26, b27, b28, ())
 else
 kx (slot13, list14, emptied15, b17, b18, b19, b20, b21, b22, b23, b24, b25, b26, b27, b28, ())
noncomputable def laws_FnSysRevoke_l0 (x : Int × (List Int) × Int × Int × Int × Int × Int × (List DEntry) × (List Int) × Int × Int × Int × Int × (List DEntry) × (List Int) × Int × Unit) : Option ((Int × (List Int) × Int × Int × Int × Int × Int × (List DEntry) × (List Int) × Int × Int × Int × Int × (List DEntry) × (List Int) × Int × Unit) ⊕ ((Int × (List Int) × Int × Int × Int × Int × (List DEntry) × (List Int) × Int × Int × Int × Int × (List DEntry) × (List Int) × Int × Unit) ⊕ (Bool × Unit))) :=
  laws_FnSysRevoke_l0K x.1 x.2.1 x.2.2.1 x.2.2.2.1 x.2.2.2.2.1 x.2.2.2.2.2.1 x.2.2.2.2.2.2.1 x.2.2.2.2.2.2.2.1 x.2.2.2.2.2.2.2.2.1 x.2.2.2.2.2.2.2.2.2.1 x.2.2.2.2.2.2.2.2.2.2.1 x.2.2.2.2.2.2.2.2.2.2.2.1 x.2.2.2.2.2.2.2.2.2.2.2.2.1 x.2.2.2.2.2.2.2.2.2.2.2.2.2.1 x.2.2.2.2.2.2.2.2.2.2.2.2.2.2.1 x.2.2.2.2.2.2.2.2.2.2.2.2.2.2.2.1 (fun y => some (.inl y)) (fun a => some (.inr (.inl a))) (fun b => some (.inr (.inr b)))
theorem laws_FnSysRevoke_l0_eq {γ : Type} (slot13 : Int) (list14 : (List Int)) (emptied15 : Int) (sq16 : Int) (b17 : Int) (b18 : Int) (b19 : Int) (b20 : (List DEntry)) (b21 : (List Int)) (b22 : Int) (b23 : Int) (b24 : Int) (b25 : Int) (b26 : (List DEntry)) (b27 : (List Int)) (b28 : Int) (kn : Int × (List Int) × Int × Int × Int × Int × Int × (List DEntry) × (List Int) × Int × Int × Int × Int × (List DEntry) × (List Int) × Int × Unit → Option γ) (kx : Int × (List Int) × Int × Int × Int × Int × (List DEntry) × (List Int) × Int × Int × Int × Int × (List DEntry) × (List Int) × Int × Unit → Option γ) (kr : Bool × Unit → Option γ) : laws_FnSysRevoke_l0K slot13 list14 emptied15 sq16 b17 b18 b19 b20 b21 b22 b23 b24 b25 b26 b27 b28 kn kx kr = (laws_FnSysRevoke_l0 (slot13, list14, emptied15, sq16, b17, b18, b19, b20, b21, b22, b23, b24, b25, b26, b27, b28, ())).bind fun r => sum3K r kn kx kr := by
  simp only [laws_FnSysRevoke_l0K, laws_FnSysRevoke_l0, B0, B1, B2, B3, B4, B5, B6, B7, B8, C1, C2, C3, C4, C5]
noncomputable def laws_FnSysRevokeK {γ : Type} (code1 : (List Int)) (k : Bool → Option γ) : Option γ :=
 bif decide ((code1.length : Int) > (1048576 : Int)) then
  k true
 else
 (spec_DrawSysRevoke code1).bind fun r2 =>
 (impl_SysRevoke ((r2.1, r2.2.1, r2.2.2.1, ()), r2.2.2.2.2.2.1, r2.2.2.2.2.2.2, r2.2.2.2.1, ()) r2.2.2.2.2.1).bind fun r3 =>
 (spec_SysRevoke ((r2.1, r2.2.1, r2.2.2.1, ()), r2.2.2.2.2.2.1, r2.2.2.2.2.2.2, r2.2.2.2.1, ()) r2.2.2.2.2.1).bind fun r4 =>
 (laws_sameKernel ((r3.1, r3.2.1, r3.2.2.1, ()), r3.2.2.2.2.2.1, r3.2.2.2.2.2.2, r3.2.2.2.1, ()) ((r4.1, r4.2.1, r4.2.2.1, ()), r4.2.2.2.2.2.1, r4.2.2.2.2.2.2, r4.2.2.2.1, ())).bind fun r5 =>
 bif (!(!r5)) then
  bif (r3.2.2.2.2.1 != r4.2.2.2.2.1) then
   k false
  else
  bif (r3.2.2.2.2.1 != (0 : Int)) then
   (laws_sameKernel ((r3.1, r3.2.1, r3.2.2.1, ()), r3.2.2.2.2.2.1, r3.2.2.2.2.2.2, r3.2.2.2.1, ()) ((r2.1, r2.2.1, r2.2.2.1, ()), r2.2.2.2.2.2.1, r2.2.2.2.2.2.2, r2.2.2.2.1, ())).bind fun r6 =>
   bif (!r6) then
    (spec_KernelValid ((r2.1, r2.2.1, r2.2.2.1, ()), r2.2.2.2.2.2.1, r2.2.2.2.2.2.2, r2.2.2.2.1, ())).bind fun r7 =>
    bif (!r7) then
     (laws_alive).bind fun r8 =>
     k r8
    else
    k false
   else
   (laws_alive).bind fun r9 =>
   k r9
  else
  nnK r2.2.2.2.2.1 fun i10 =>
  getK r2.2.2.2.2.2.2 i10 fun v11 =>
  (impl_Descendants r2.2.2.2.2.2.1 v11).bind fun r12 =>
  (loopF laws_FnSysRevoke_l0 (r2.2.2.2.2.1, r12, (0 : Int), (0 : Int), r2.1, r2.2.1, r2.2.2.1, r2.2.2.2.2.2.1, r2.2.2.2.2.2.2, r2.2.2.2.1, r3.1, r3.2.1, r3.2.2.1, r3.2.2.2.2.2.1, r3.2.2.2.2.2.2, r3.2.2.2.1, ())).bind fun q => endK q (fun z58 =>
   (impl_KernelValid ((z58.2.2.2.2.2.2.2.2.2.1, z58.2.2.2.2.2.2.2.2.2.2.1, z58.2.2.2.2.2.2.2.2.2.2.2.1, ()), z58.2.2.2.2.2.2.2.2.2.2.2.2.1, z58.2.2.2.2.2.2.2.2.2.2.2.2.2.1, z58.2.2.2.2.2.2.2.2.2.2.2.2.2.2.1, ())).bind fun r60 =>
   bif r60 then
    bif (z58.2.2.1 == (z58.2.1.length : Int)) then
     nnK z58.1 fun i61 =>
     getK z58.2.2.2.2.2.2.2.2.2.2.2.2.2.1 i61 fun v62 =>
     nnK z58.1 fun i63 =>
     getK z58.2.2.2.2.2.2.2.1 i63 fun v64 =>
     k (v62 == v64)
    else
    k false
   else
   k false) (fun z59 =>
   k z59.1)
 else
 k false
noncomputable def laws_FnSysRevoke (code1 : (List Int)) : Option (Bool) :=
  laws_FnSysRevokeK code1 some
theorem laws_FnSysRevoke_eq {γ : Type} (code1 : (List Int)) (k : Bool → Option γ) : laws_FnSysRevokeK code1 k = (laws_FnSysRevoke code1).bind k := by
  simp only [laws_FnSysRevokeK, laws_FnSysRevoke, B0, B1, B2, B3, B4, B5, B6, B7, B8, C1, C2, C3, C4, C5]

end Go.Ev
