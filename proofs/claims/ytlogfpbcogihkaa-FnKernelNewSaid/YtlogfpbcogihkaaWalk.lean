/-
  The walks: the program computes what the functions of plain data compute, wherever these come to a result; printed by a program of the prover.
-/
import Derived.Test.YtlogfpbcogihkaaDefs
import Derived.Test.YtlogfpbcogihkaaProg
import Derived.Test.YtlogfpbcogihkaaAlive
namespace Go.Ev
open Go.Proofs
set_option linter.unusedVariables false
set_option linter.unusedSimpArgs false
set_option maxRecDepth 100000
def tys : List (Nat × Ty) := [(3, I), (4, .bool), (5, (.int .u8)), (22, (.sl (.int .u8))), (24, tPiece), (25, (.sl tEntry)), (26, (.sl I)), (28, tKernel), (37, tCap), (39, tEntry), (54, tPiece), (55, (.sl tEntry)), (57, tKernel), (105, tl20Rd), (118, (.int .u64)), (124, tCap), (126, tEntry), (128, (.sl .bool)), (133, (.int .u64))]
def tups : List (Nat × List Ty) := [(29, [tKernel, I, I, I, I]), (31, [tKernel, I]), (43, [tKernel, I, I]), (52, [I, I]), (77, [.bool, .bool]), (89, [tPiece, (.sl I), .bool]), (106, [tCap, .bool]), (119, [(.int .u64), (.int .u64)]), (134, [(.int .u64), (.int .u64)])]
def tab : Tab := tabOf tys tups
def tns (t : Turn) (a n : Nat) : List (Nat × Turn) := (List.range' a n).map fun i => (i, t)
abbrev SemF (f : Nat) (sa : List S2) (ba : List SB) {ρ : Type} (F : FAr sa ba → Option ρ) (out : ρ → AV × Store) : Prop := ∀ x y, F x = some y → SemCall Try.prog f (encAr sa ba x).1 (encAr sa ba x).2 (out y).1 (out y).2
noncomputable abbrev evF (C : Cfg) (O : Oracle) (L : Loops) (f : Nat) (sa : List S2) (ba : List SB) (x : FAr sa ba) := evBodyK Try.prog C O L f (encAr sa ba x).1 (encAr sa ba x).2 (fun v s => some (v, s))
noncomputable abbrev rdF (C : Cfg) (O : Oracle) (L : Loops) (f b i : Nat) (sh : List (Nat × S2)) (bs : List SB) (x : FSt sh bs) := roundK C.T (C.hint f) C.mode O L b (lp Try.prog f i) (encSt sh bs x) (fun e s => some (e, s))
abbrev loF (C : Cfg) (O : Oracle) (L : Loops) (f b i : Nat) (lc : LCon) := LConOk C.T (C.hint f) C.mode O L b (lp Try.prog f i) lc
theorem okP : progOk Try.prog = true := by kernel_rfl
theorem tabP : TabOk Try.prog tab := tabOf_ok (by kernel_rfl)
theorem folP : Try.prog.follows .mixedOrders = true := by kernel_rfl
/-! 51 -/
def C_0 : Cfg := { T := tab, hint := fun _ => { mu := [10], keepR := [0, 2, 5], res := [2] }, mode := fun _ => .borrow }
noncomputable def O_0 : Oracle := Oracle.of []
noncomputable def L_0 : Loops := Loops.of []
theorem lf_0 : LoopsFn Try.prog C_0 O_0 51 L_0 := LoopsFn.nil' (by kernel_rfl)
def sa_0 : List S2 := [.one (.dat (.sl (.int .u8)))]
def ba_0 : List SB := []
def out_0 (r : Dl20Rd) : AV × Store := out1 (.one (.ptr 0 0 0)) [.one tl20Rd] (r, ())
theorem w_0 (x : FAr sa_0 ba_0) : evF C_0 O_0 L_0 51 sa_0 ba_0 x =
 spec_l20OpenK x.1 (fun r => some (out_0 r)) := by kernel_rfl
theorem sem_0 : SemF 51 sa_0 ba_0 (fun x => spec_l20Open x.1) out_0 :=
 sem_of folP okP tabP (Oracle.of_ok Oracle.nil_ok) lf_0 fun x => (w_0 x).trans (spec_l20Open_eq x.1 _)
noncomputable def c_0 : Con := Con.shape sa_0 ba_0 (fun x => spec_l20Open x.1) out_0
theorem ok_0 : ConOk Try.prog 51 c_0 := Con.shape_ok sem_0

/-! 55 -/
def C_1 : Cfg := { T := tab, hint := fun _ => { keepR := [0, 1, 4, 5, 6, 24, 36], res := [4], base := 1, order := [(7, tns .read 0 37 ++ tns .forced 37 9)] }, mode := fun _ => .borrow }
noncomputable def O_1 : Oracle := Oracle.of []
noncomputable def L_1 : Loops := Loops.of []
theorem lf_1 : LoopsFn Try.prog C_1 O_1 55 L_1 := LoopsFn.nil' (by kernel_rfl)
def sa_1 : List S2 := [.one (.ptr 0 0 0), .one (.dat I)]
def ba_1 : List SB := [.one tl20Rd]
def out_1 (r : Int × Dl20Rd) : AV × Store := out1 (.one (.dat I)) [.one tl20Rd] (r.1, r.2, ())
theorem w_1 (x : FAr sa_1 ba_1) : evF C_1 O_1 L_1 55 sa_1 ba_1 x =
 spec_l20Rd_pickK x.1 x.2.1 (fun r => some (out_1 r)) := by kernel_rfl
theorem sem_1 : SemF 55 sa_1 ba_1 (fun x => spec_l20Rd_pick x.1 x.2.1) out_1 :=
 sem_of folP okP tabP (Oracle.of_ok Oracle.nil_ok) lf_1 fun x => (w_1 x).trans (spec_l20Rd_pick_eq x.1 x.2.1 _)
noncomputable def c_1 : Con := Con.shape sa_1 ba_1 (fun x => spec_l20Rd_pick x.1 x.2.1) out_1
theorem ok_1 : ConOk Try.prog 55 c_1 := Con.shape_ok sem_1

/-! 67 -/
def C_2 : Cfg := { T := tab, hint := fun _ => { keepR := [0, 1, 2, 6], res := [6] }, mode := fun _ => .borrow }
noncomputable def O_2 : Oracle := Oracle.of []
noncomputable def L_2 : Loops := Loops.of []
theorem lf_2 : LoopsFn Try.prog C_2 O_2 67 L_2 := LoopsFn.nil' (by kernel_rfl)
def sa_2 : List S2 := [.one (.dat I), .one (.dat I), .one (.dat I)]
def ba_2 : List SB := []
def out_2 (r : Bool) : AV × Store := out1 (.one (.dat .bool)) [] (r, ())
theorem w_2 (x : FAr sa_2 ba_2) : evF C_2 O_2 L_2 67 sa_2 ba_2 x =
 spec_l1InK x.1 x.2.1 x.2.2.1 (fun r => some (out_2 r)) := by kernel_rfl
theorem sem_2 : SemF 67 sa_2 ba_2 (fun x => spec_l1In x.1 x.2.1 x.2.2.1) out_2 :=
 sem_of folP okP tabP (Oracle.of_ok Oracle.nil_ok) lf_2 fun x => (w_2 x).trans (spec_l1In_eq x.1 x.2.1 x.2.2.1 _)
noncomputable def c_2 : Con := Con.shape sa_2 ba_2 (fun x => spec_l1In x.1 x.2.1 x.2.2.1) out_2
theorem ok_2 : ConOk Try.prog 67 c_2 := Con.shape_ok sem_2

/-! 32 -/
def C_3 : Cfg := { T := tab, hint := fun _ => { mu := [4, 5, 27], keepR := [0, 1, 4, 5, 6, 14, 21], res := [4], keepL := [(0, [1, 4, 5, 6])], keepX := [(0, [4, 5]), (1, [1, 4, 5, 6])], fill := [(0, [1, 4, 5, 6])], fillR := true }, mode := fun _ => .borrow }
noncomputable def O_3 : Oracle := Oracle.of [(67, c_2)]
def sh_3_l0 : List (Nat × S2) := [(1, .one (.dat I)), (4, .one (.ptr 0 0 0)), (5, .one (.ptr 1 0 0)), (6, .one (.dat I))]
def bs_3_l0 : List SB := [.var [.dat I, .dat I, .dat I, .all 2, .all 3, .dat I], .var [.dat I, .dat I, .dat I, .all 4, .all 5, .dat I], .data tEntry, .data I, .data tEntry, .data I]
def xs_3_l0 : List (Nat × S2) := [(4, .one (.ptr 0 0 0)), (5, .one (.ptr 1 0 0))]
def xb_3_l0 : List SB := [.var [.dat I, .dat I, .dat I, .all 2, .all 3, .dat I], .var [.dat I, .dat I, .dat I, .all 4, .all 5, .dat I], .data tEntry, .data I, .data tEntry, .data I]
noncomputable def lc_3_l0 : LCon := LCon.shape1 sh_3_l0 bs_3_l0 spec_NewKernel_l0 (fun a => (.exit 0, encSt xs_3_l0 xb_3_l0 a))
noncomputable def L_3 : Loops := Loops.of [(0, lc_3_l0)]
theorem r_3_l0 (x : FSt sh_3_l0 bs_3_l0) : rdF C_3 O_3 L_3 32 0 0 sh_3_l0 bs_3_l0 x =
 spec_NewKernel_l0K x.1 x.2.1 x.2.2.1 x.2.2.2.1 x.2.2.2.2.1 x.2.2.2.2.2.1 x.2.2.2.2.2.2.1 x.2.2.2.2.2.2.2.1 x.2.2.2.2.2.2.2.2.1 x.2.2.2.2.2.2.2.2.2.1 x.2.2.2.2.2.2.2.2.2.2.1 x.2.2.2.2.2.2.2.2.2.2.2.1 x.2.2.2.2.2.2.2.2.2.2.2.2.1 x.2.2.2.2.2.2.2.2.2.2.2.2.2.1 (fun y => some (Ex.normal, encSt sh_3_l0 bs_3_l0 y)) (fun a => some (Ex.exit 0, encSt xs_3_l0 xb_3_l0 a)) := by kernel_rfl
theorem lo_3_l0 : loF C_3 O_3 L_3 32 0 0 lc_3_l0 :=
 LCon.shape1_ok (fun a => by simp) fun x => (r_3_l0 x).trans (spec_NewKernel_l0_eq x.1 x.2.1 x.2.2.1 x.2.2.2.1 x.2.2.2.2.1 x.2.2.2.2.2.1 x.2.2.2.2.2.2.1 x.2.2.2.2.2.2.2.1 x.2.2.2.2.2.2.2.2.1 x.2.2.2.2.2.2.2.2.2.1 x.2.2.2.2.2.2.2.2.2.2.1 x.2.2.2.2.2.2.2.2.2.2.2.1 x.2.2.2.2.2.2.2.2.2.2.2.2.1 x.2.2.2.2.2.2.2.2.2.2.2.2.2.1 _ _)
theorem lf_3 : LoopsFn Try.prog C_3 O_3 32 L_3 := LoopsFn.all (by kernel_rfl) (by decide) ⟨lo_3_l0, trivial⟩
def sa_3 : List S2 := [.one (.dat I), .one (.dat I)]
def ba_3 : List SB := []
def out_3 (r : Int × Int × Int × Int × (List DEntry) × (List Int)) : AV × Store := out1 (.agg [.dat I, .dat I, .dat I, .all 0, .all 1, .dat I]) [.data tEntry, .data I] (r.1, r.2.1, r.2.2.1, r.2.2.2.1, r.2.2.2.2.1, r.2.2.2.2.2, ())
theorem w_3 (x : FAr sa_3 ba_3) : evF C_3 O_3 L_3 32 sa_3 ba_3 x =
 spec_NewKernelK x.1 x.2.1 (fun r => some (out_3 r)) := by kernel_rfl
theorem sem_3 : SemF 32 sa_3 ba_3 (fun x => spec_NewKernel x.1 x.2.1) out_3 :=
 sem_of folP okP tabP (Oracle.of_ok (Oracle.cons_ok ok_2 Oracle.nil_ok)) lf_3 fun x => (w_3 x).trans (spec_NewKernel_eq x.1 x.2.1 _)
noncomputable def c_3 : Con := Con.shape sa_3 ba_3 (fun x => spec_NewKernel x.1 x.2.1) out_3
theorem ok_3 : ConOk Try.prog 32 c_3 := Con.shape_ok sem_3

/-! 64 -/
def C_4 : Cfg := { T := tab, hint := fun _ => { keepR := [1, 2], res := [2], order := [(1, tns .forced 0 9 ++ [(9, .read), (10, .read)] ++ tns .forced 11 7 ++ [(18, .read), (19, .read)] ++ tns .forced 20 7 ++ [(27, .read), (28, .read)] ++ tns .forced 29 6)] }, mode := fun _ => .borrow }
noncomputable def O_4 : Oracle := Oracle.of [(67, c_2)]
noncomputable def L_4 : Loops := Loops.of []
theorem lf_4 : LoopsFn Try.prog C_4 O_4 64 L_4 := LoopsFn.nil' (by kernel_rfl)
def sa_4 : List S2 := [.one (.dat tPiece)]
def ba_4 : List SB := []
def out_4 (r : Bool) : AV × Store := out1 (.one (.dat .bool)) [] (r, ())
theorem w_4 (x : FAr sa_4 ba_4) : evF C_4 O_4 L_4 64 sa_4 ba_4 x =
 spec_PieceValidK x.1 (fun r => some (out_4 r)) := by kernel_rfl
theorem sem_4 : SemF 64 sa_4 ba_4 (fun x => spec_PieceValid x.1) out_4 :=
 sem_of folP okP tabP (Oracle.of_ok (Oracle.cons_ok ok_2 Oracle.nil_ok)) lf_4 fun x => (w_4 x).trans (spec_PieceValid_eq x.1 _)
noncomputable def c_4 : Con := Con.shape sa_4 ba_4 (fun x => spec_PieceValid x.1) out_4
theorem ok_4 : ConOk Try.prog 64 c_4 := Con.shape_ok sem_4

/-! 134 -/
def C_5 : Cfg := { T := tab, hint := fun _ => { keepR := [0, 2], res := [2] }, mode := fun _ => .borrow }
noncomputable def O_5 : Oracle := Oracle.of [(67, c_2)]
noncomputable def L_5 : Loops := Loops.of []
theorem lf_5 : LoopsFn Try.prog C_5 O_5 134 L_5 := LoopsFn.nil' (by kernel_rfl)
def sa_5 : List S2 := [.one (.dat I)]
def ba_5 : List SB := []
def out_5 (r : Bool) : AV × Store := out1 (.one (.dat .bool)) [] (r, ())
theorem w_5 (x : FAr sa_5 ba_5) : evF C_5 O_5 L_5 134 sa_5 ba_5 x =
 spec_RightsValidK x.1 (fun r => some (out_5 r)) := by kernel_rfl
theorem sem_5 : SemF 134 sa_5 ba_5 (fun x => spec_RightsValid x.1) out_5 :=
 sem_of folP okP tabP (Oracle.of_ok (Oracle.cons_ok ok_2 Oracle.nil_ok)) lf_5 fun x => (w_5 x).trans (spec_RightsValid_eq x.1 _)
noncomputable def c_5 : Con := Con.shape sa_5 ba_5 (fun x => spec_RightsValid x.1) out_5
theorem ok_5 : ConOk Try.prog 134 c_5 := Con.shape_ok sem_5

/-! 135 -/
def C_6 : Cfg := { T := tab, hint := fun _ => { keepR := [0, 2], res := [2] }, mode := fun _ => .borrow }
noncomputable def O_6 : Oracle := Oracle.of []
noncomputable def L_6 : Loops := Loops.of []
theorem lf_6 : LoopsFn Try.prog C_6 O_6 135 L_6 := LoopsFn.nil' (by kernel_rfl)
def sa_6 : List S2 := [.one (.dat I)]
def ba_6 : List SB := []
def out_6 (r : Bool) : AV × Store := out1 (.one (.dat .bool)) [] (r, ())
theorem w_6 (x : FAr sa_6 ba_6) : evF C_6 O_6 L_6 135 sa_6 ba_6 x =
 spec_l2BadgedK x.1 (fun r => some (out_6 r)) := by kernel_rfl
theorem sem_6 : SemF 135 sa_6 ba_6 (fun x => spec_l2Badged x.1) out_6 :=
 sem_of folP okP tabP (Oracle.of_ok Oracle.nil_ok) lf_6 fun x => (w_6 x).trans (spec_l2Badged_eq x.1 _)
noncomputable def c_6 : Con := Con.shape sa_6 ba_6 (fun x => spec_l2Badged x.1) out_6
theorem ok_6 : ConOk Try.prog 135 c_6 := Con.shape_ok sem_6

/-! 110 -/
def C_7 : Cfg := { T := tab, hint := fun _ => { keepR := [1, 2, 5], res := [2] }, mode := fun _ => .borrow }
noncomputable def O_7 : Oracle := Oracle.of [(67, c_2), (134, c_5), (135, c_6)]
noncomputable def L_7 : Loops := Loops.of []
theorem lf_7 : LoopsFn Try.prog C_7 O_7 110 L_7 := LoopsFn.nil' (by kernel_rfl)
def sa_7 : List S2 := [.one (.dat tCap)]
def ba_7 : List SB := []
def out_7 (r : Bool) : AV × Store := out1 (.one (.dat .bool)) [] (r, ())
theorem w_7 (x : FAr sa_7 ba_7) : evF C_7 O_7 L_7 110 sa_7 ba_7 x =
 spec_CapValidK x.1 (fun r => some (out_7 r)) := by kernel_rfl
theorem sem_7 : SemF 110 sa_7 ba_7 (fun x => spec_CapValid x.1) out_7 :=
 sem_of folP okP tabP (Oracle.of_ok (Oracle.cons_ok ok_2 (Oracle.cons_ok ok_5 (Oracle.cons_ok ok_6 Oracle.nil_ok)))) lf_7 fun x => (w_7 x).trans (spec_CapValid_eq x.1 _)
noncomputable def c_7 : Con := Con.shape sa_7 ba_7 (fun x => spec_CapValid x.1) out_7
theorem ok_7 : ConOk Try.prog 110 c_7 := Con.shape_ok sem_7

/-! 111 -/
def C_8 : Cfg := { T := tab, hint := fun _ => { keepR := [2, 3, 4], res := [4] }, mode := fun _ => .borrow }
noncomputable def O_8 : Oracle := Oracle.of [(110, c_7)]
noncomputable def L_8 : Loops := Loops.of []
theorem lf_8 : LoopsFn Try.prog C_8 O_8 111 L_8 := LoopsFn.nil' (by kernel_rfl)
def sa_8 : List S2 := [.one (.dat tCap), .one (.dat tCap)]
def ba_8 : List SB := []
def out_8 (r : Bool) : AV × Store := out1 (.one (.dat .bool)) [] (r, ())
theorem w_8 (x : FAr sa_8 ba_8) : evF C_8 O_8 L_8 111 sa_8 ba_8 x =
 spec_CapWithinK x.1 x.2.1 (fun r => some (out_8 r)) := by kernel_rfl
theorem sem_8 : SemF 111 sa_8 ba_8 (fun x => spec_CapWithin x.1 x.2.1) out_8 :=
 sem_of folP okP tabP (Oracle.of_ok (Oracle.cons_ok ok_7 Oracle.nil_ok)) lf_8 fun x => (w_8 x).trans (spec_CapWithin_eq x.1 x.2.1 _)
noncomputable def c_8 : Con := Con.shape sa_8 ba_8 (fun x => spec_CapWithin x.1 x.2.1) out_8
theorem ok_8 : ConOk Try.prog 111 c_8 := Con.shape_ok sem_8

/-! 65 -/
def C_9 : Cfg := { T := tab, hint := fun _ => { keepR := [0, 2, 3, 7, 36, 79], res := [2], order := [(6, [(0, .read)] ++ tns .forced 1 6 ++ [(7, .read)] ++ tns .forced 8 7 ++ [(15, .read), (16, .read)] ++ tns .forced 17 8 ++ tns .read 25 7 ++ tns .forced 32 11)], keepL := [(0, [0, 3])], keepX := [(0, [0]), (1, [0, 3])] }, mode := fun _ => .borrow }
noncomputable def O_9 : Oracle := Oracle.of [(67, c_2), (110, c_7), (111, c_8)]
def sh_9_l0 : List (Nat × S2) := [(0, .one (.dat (.sl tEntry))), (3, .one (.dat I))]
def bs_9_l0 : List SB := []
def xs_9_l0 : List (Nat × S2) := [(0, .one (.dat (.sl tEntry)))]
def xb_9_l0 : List SB := []
def ys_9_l0 : List (Nat × S2) := [(2, .one (.dat .bool))]
def yb_9_l0 : List SB := []
noncomputable def lc_9_l0 : LCon := LCon.shape sh_9_l0 bs_9_l0 spec_DerivationValid_l0 (fun a => (.exit 0, encSt xs_9_l0 xb_9_l0 a)) (fun b => encSt ys_9_l0 yb_9_l0 b)
noncomputable def L_9 : Loops := Loops.of [(0, lc_9_l0)]
theorem r_9_l0 (x : FSt sh_9_l0 bs_9_l0) : rdF C_9 O_9 L_9 65 0 0 sh_9_l0 bs_9_l0 x =
 spec_DerivationValid_l0K x.1 x.2.1 (fun y => some (Ex.normal, encSt sh_9_l0 bs_9_l0 y)) (fun a => some (Ex.exit 0, encSt xs_9_l0 xb_9_l0 a)) (fun b => some (Ex.ret, encSt ys_9_l0 yb_9_l0 b)) := by kernel_rfl
theorem lo_9_l0 : loF C_9 O_9 L_9 65 0 0 lc_9_l0 :=
 LCon.shape_ok (fun a => by simp) fun x => (r_9_l0 x).trans (spec_DerivationValid_l0_eq x.1 x.2.1 _ _ _)
theorem lf_9 : LoopsFn Try.prog C_9 O_9 65 L_9 := LoopsFn.all (by kernel_rfl) (by decide) ⟨lo_9_l0, trivial⟩
def sa_9 : List S2 := [.one (.dat (.sl tEntry))]
def ba_9 : List SB := []
def out_9 (r : Bool) : AV × Store := out1 (.one (.dat .bool)) [] (r, ())
theorem w_9 (x : FAr sa_9 ba_9) : evF C_9 O_9 L_9 65 sa_9 ba_9 x =
 spec_DerivationValidK x.1 (fun r => some (out_9 r)) := by kernel_rfl
theorem sem_9 : SemF 65 sa_9 ba_9 (fun x => spec_DerivationValid x.1) out_9 :=
 sem_of folP okP tabP (Oracle.of_ok (Oracle.cons_ok ok_2 (Oracle.cons_ok ok_7 (Oracle.cons_ok ok_8 Oracle.nil_ok)))) lf_9 fun x => (w_9 x).trans (spec_DerivationValid_eq x.1 _)
noncomputable def c_9 : Con := Con.shape sa_9 ba_9 (fun x => spec_DerivationValid x.1) out_9
theorem ok_9 : ConOk Try.prog 65 c_9 := Con.shape_ok sem_9

/-! 66 -/
def C_10 : Cfg := { T := tab, hint := fun _ => { keepR := [0, 2, 3, 4, 8, 16, 19, 37], res := [2], order := [(9, [(0, .read)] ++ tns .forced 1 5 ++ tns .read 6 5 ++ tns .forced 11 5)], keepL := [(0, [0, 3]), (2, [0, 3, 4])], keepX := [(0, [0]), (1, [0, 3]), (2, [0, 3]), (3, [0, 3, 4])] }, mode := fun _ => .borrow }
noncomputable def O_10 : Oracle := Oracle.of [(67, c_2)]
def sh_10_l0 : List (Nat × S2) := [(0, .one (.dat (.sl I))), (3, .one (.dat I))]
def bs_10_l0 : List SB := []
def xs_10_l0 : List (Nat × S2) := [(0, .one (.dat (.sl I)))]
def xb_10_l0 : List SB := []
def ys_10_l0 : List (Nat × S2) := [(2, .one (.dat .bool))]
def yb_10_l0 : List SB := []
noncomputable def lc_10_l0 : LCon := LCon.shape sh_10_l0 bs_10_l0 spec_PlacesValid_l0 (fun a => (.exit 0, encSt xs_10_l0 xb_10_l0 a)) (fun b => encSt ys_10_l0 yb_10_l0 b)
def sh_10_l2 : List (Nat × S2) := [(0, .one (.dat (.sl I))), (3, .one (.dat I)), (4, .one (.dat I))]
def bs_10_l2 : List SB := []
def xs_10_l2 : List (Nat × S2) := [(0, .one (.dat (.sl I))), (3, .one (.dat I))]
def xb_10_l2 : List SB := []
def ys_10_l2 : List (Nat × S2) := [(2, .one (.dat .bool))]
def yb_10_l2 : List SB := []
noncomputable def lc_10_l2 : LCon := LCon.shape sh_10_l2 bs_10_l2 spec_PlacesValid_l2 (fun a => (.exit 2, encSt xs_10_l2 xb_10_l2 a)) (fun b => encSt ys_10_l2 yb_10_l2 b)
noncomputable def L_10 : Loops := Loops.of [(0, lc_10_l0), (2, lc_10_l2)]
theorem r_10_l0 (x : FSt sh_10_l0 bs_10_l0) : rdF C_10 O_10 L_10 66 0 0 sh_10_l0 bs_10_l0 x =
 spec_PlacesValid_l0K x.1 x.2.1 (fun y => some (Ex.normal, encSt sh_10_l0 bs_10_l0 y)) (fun a => some (Ex.exit 0, encSt xs_10_l0 xb_10_l0 a)) (fun b => some (Ex.ret, encSt ys_10_l0 yb_10_l0 b)) := by kernel_rfl
theorem lo_10_l0 : loF C_10 O_10 L_10 66 0 0 lc_10_l0 :=
 LCon.shape_ok (fun a => by simp) fun x => (r_10_l0 x).trans (spec_PlacesValid_l0_eq x.1 x.2.1 _ _ _)
theorem r_10_l2 (x : FSt sh_10_l2 bs_10_l2) : rdF C_10 O_10 L_10 66 2 1 sh_10_l2 bs_10_l2 x =
 spec_PlacesValid_l2K x.1 x.2.1 x.2.2.1 (fun y => some (Ex.normal, encSt sh_10_l2 bs_10_l2 y)) (fun a => some (Ex.exit 2, encSt xs_10_l2 xb_10_l2 a)) (fun b => some (Ex.ret, encSt ys_10_l2 yb_10_l2 b)) := by kernel_rfl
theorem lo_10_l2 : loF C_10 O_10 L_10 66 2 1 lc_10_l2 :=
 LCon.shape_ok (fun a => by simp) fun x => (r_10_l2 x).trans (spec_PlacesValid_l2_eq x.1 x.2.1 x.2.2.1 _ _ _)
theorem lf_10 : LoopsFn Try.prog C_10 O_10 66 L_10 := LoopsFn.all (by kernel_rfl) (by decide) ⟨lo_10_l0, lo_10_l2, trivial⟩
def sa_10 : List S2 := [.one (.dat (.sl I))]
def ba_10 : List SB := []
def out_10 (r : Bool) : AV × Store := out1 (.one (.dat .bool)) [] (r, ())
theorem w_10 (x : FAr sa_10 ba_10) : evF C_10 O_10 L_10 66 sa_10 ba_10 x =
 spec_PlacesValidK x.1 (fun r => some (out_10 r)) := by kernel_rfl
theorem sem_10 : SemF 66 sa_10 ba_10 (fun x => spec_PlacesValid x.1) out_10 :=
 sem_of folP okP tabP (Oracle.of_ok (Oracle.cons_ok ok_2 Oracle.nil_ok)) lf_10 fun x => (w_10 x).trans (spec_PlacesValid_eq x.1 _)
noncomputable def c_10 : Con := Con.shape sa_10 ba_10 (fun x => spec_PlacesValid x.1) out_10
theorem ok_10 : ConOk Try.prog 66 c_10 := Con.shape_ok sem_10

/-! 68 -/
def C_11 : Cfg := { T := tab, hint := fun _ => { keepR := [0, 1, 4, 5, 17, 25], res := [4], keepL := [(0, [0, 1, 5])], keepX := [(0, []), (1, [0, 1, 5])] }, mode := fun _ => .borrow }
noncomputable def O_11 : Oracle := Oracle.of [(66, c_10)]
def sh_11_l0 : List (Nat × S2) := [(0, .one (.dat (.sl I))), (1, .one (.dat I)), (5, .one (.dat I))]
def bs_11_l0 : List SB := []
def xs_11_l0 : List (Nat × S2) := []
def xb_11_l0 : List SB := []
def ys_11_l0 : List (Nat × S2) := [(4, .one (.dat I))]
def yb_11_l0 : List SB := []
noncomputable def lc_11_l0 : LCon := LCon.shape sh_11_l0 bs_11_l0 spec_FindPlace_l0 (fun a => (.exit 0, encSt xs_11_l0 xb_11_l0 a)) (fun b => encSt ys_11_l0 yb_11_l0 b)
noncomputable def L_11 : Loops := Loops.of [(0, lc_11_l0)]
theorem r_11_l0 (x : FSt sh_11_l0 bs_11_l0) : rdF C_11 O_11 L_11 68 0 0 sh_11_l0 bs_11_l0 x =
 spec_FindPlace_l0K x.1 x.2.1 x.2.2.1 (fun y => some (Ex.normal, encSt sh_11_l0 bs_11_l0 y)) (fun a => some (Ex.exit 0, encSt xs_11_l0 xb_11_l0 a)) (fun b => some (Ex.ret, encSt ys_11_l0 yb_11_l0 b)) := by kernel_rfl
theorem lo_11_l0 : loF C_11 O_11 L_11 68 0 0 lc_11_l0 :=
 LCon.shape_ok (fun a => by simp) fun x => (r_11_l0 x).trans (spec_FindPlace_l0_eq x.1 x.2.1 x.2.2.1 _ _ _)
theorem lf_11 : LoopsFn Try.prog C_11 O_11 68 L_11 := LoopsFn.all (by kernel_rfl) (by decide) ⟨lo_11_l0, trivial⟩
def sa_11 : List S2 := [.one (.dat (.sl I)), .one (.dat I)]
def ba_11 : List SB := []
def out_11 (r : Int) : AV × Store := out1 (.one (.dat I)) [] (r, ())
theorem w_11 (x : FAr sa_11 ba_11) : evF C_11 O_11 L_11 68 sa_11 ba_11 x =
 spec_FindPlaceK x.1 x.2.1 (fun r => some (out_11 r)) := by kernel_rfl
theorem sem_11 : SemF 68 sa_11 ba_11 (fun x => spec_FindPlace x.1 x.2.1) out_11 :=
 sem_of folP okP tabP (Oracle.of_ok (Oracle.cons_ok ok_10 Oracle.nil_ok)) lf_11 fun x => (w_11 x).trans (spec_FindPlace_eq x.1 x.2.1 _)
noncomputable def c_11 : Con := Con.shape sa_11 ba_11 (fun x => spec_FindPlace x.1 x.2.1) out_11
theorem ok_11 : ConOk Try.prog 68 c_11 := Con.shape_ok sem_11

/-! 23 -/
def C_12 : Cfg := { T := tab, hint := fun _ => { keepR := [1, 2, 3, 4, 26, 31, 59, 64, 95], res := [2], order := [(6, [(0, .read), (1, .read)] ++ tns .forced 2 6 ++ [(8, .read), (9, .read)] ++ tns .forced 10 5 ++ tns .read 15 7 ++ tns .forced 22 4), (11, tns .read 0 5 ++ tns .forced 5 5 ++ [(10, .read), (11, .read)] ++ tns .forced 12 5 ++ tns .read 17 4 ++ tns .forced 21 8)], keepL := [(0, [1, 3]), (2, [1, 4])], keepX := [(0, [1]), (1, [1, 3]), (2, []), (3, [1, 4])] }, mode := fun _ => .borrow }
noncomputable def O_12 : Oracle := Oracle.of [(64, c_4), (65, c_9), (66, c_10), (67, c_2), (68, c_11)]
def sh_12_l0 : List (Nat × S2) := [(1, .one (.cdat tKernel 0)), (3, .one (.dat I))]
def bs_12_l0 : List SB := []
def xs_12_l0 : List (Nat × S2) := [(1, .one (.cdat tKernel 0))]
def xb_12_l0 : List SB := []
def ys_12_l0 : List (Nat × S2) := [(2, .one (.dat .bool))]
def yb_12_l0 : List SB := []
noncomputable def lc_12_l0 : LCon := LCon.shape sh_12_l0 bs_12_l0 spec_KernelValid_l0 (fun a => (.exit 0, encSt xs_12_l0 xb_12_l0 a)) (fun b => encSt ys_12_l0 yb_12_l0 b)
def sh_12_l2 : List (Nat × S2) := [(1, .one (.cdat tKernel 0)), (4, .one (.dat I))]
def bs_12_l2 : List SB := []
def xs_12_l2 : List (Nat × S2) := []
def xb_12_l2 : List SB := []
def ys_12_l2 : List (Nat × S2) := [(2, .one (.dat .bool))]
def yb_12_l2 : List SB := []
noncomputable def lc_12_l2 : LCon := LCon.shape sh_12_l2 bs_12_l2 spec_KernelValid_l2 (fun a => (.exit 2, encSt xs_12_l2 xb_12_l2 a)) (fun b => encSt ys_12_l2 yb_12_l2 b)
noncomputable def L_12 : Loops := Loops.of [(0, lc_12_l0), (2, lc_12_l2)]
theorem r_12_l0 (x : FSt sh_12_l0 bs_12_l0) : rdF C_12 O_12 L_12 23 0 0 sh_12_l0 bs_12_l0 x =
 spec_KernelValid_l0K x.1 x.2.1 (fun y => some (Ex.normal, encSt sh_12_l0 bs_12_l0 y)) (fun a => some (Ex.exit 0, encSt xs_12_l0 xb_12_l0 a)) (fun b => some (Ex.ret, encSt ys_12_l0 yb_12_l0 b)) := by kernel_rfl
theorem lo_12_l0 : loF C_12 O_12 L_12 23 0 0 lc_12_l0 :=
 LCon.shape_ok (fun a => by simp) fun x => (r_12_l0 x).trans (spec_KernelValid_l0_eq x.1 x.2.1 _ _ _)
theorem r_12_l2 (x : FSt sh_12_l2 bs_12_l2) : rdF C_12 O_12 L_12 23 2 1 sh_12_l2 bs_12_l2 x =
 spec_KernelValid_l2K x.1 x.2.1 (fun y => some (Ex.normal, encSt sh_12_l2 bs_12_l2 y)) (fun a => some (Ex.exit 2, encSt xs_12_l2 xb_12_l2 a)) (fun b => some (Ex.ret, encSt ys_12_l2 yb_12_l2 b)) := by kernel_rfl
theorem lo_12_l2 : loF C_12 O_12 L_12 23 2 1 lc_12_l2 :=
 LCon.shape_ok (fun a => by simp) fun x => (r_12_l2 x).trans (spec_KernelValid_l2_eq x.1 x.2.1 _ _ _)
theorem lf_12 : LoopsFn Try.prog C_12 O_12 23 L_12 := LoopsFn.all (by kernel_rfl) (by decide) ⟨lo_12_l0, lo_12_l2, trivial⟩
def sa_12 : List S2 := [.one (.dat tKernel)]
def ba_12 : List SB := []
def out_12 (r : Bool) : AV × Store := out1 (.one (.dat .bool)) [] (r, ())
theorem w_12 (x : FAr sa_12 ba_12) : evF C_12 O_12 L_12 23 sa_12 ba_12 x =
 spec_KernelValidK x.1 (fun r => some (out_12 r)) := by kernel_rfl
theorem sem_12 : SemF 23 sa_12 ba_12 (fun x => spec_KernelValid x.1) out_12 :=
 sem_of folP okP tabP (Oracle.of_ok (Oracle.cons_ok ok_4 (Oracle.cons_ok ok_9 (Oracle.cons_ok ok_10 (Oracle.cons_ok ok_2 (Oracle.cons_ok ok_11 Oracle.nil_ok)))))) lf_12 fun x => (w_12 x).trans (spec_KernelValid_eq x.1 _)
noncomputable def c_12 : Con := Con.shape sa_12 ba_12 (fun x => spec_KernelValid x.1) out_12
theorem ok_12 : ConOk Try.prog 23 c_12 := Con.shape_ok sem_12

/-! 60 -/
def C_13 : Cfg := { T := tab, hint := fun _ => { mu := [2, 3, 8, 13], keepR := [1, 2, 3], res := [2] }, mode := fun _ => .borrow }
noncomputable def O_13 : Oracle := Oracle.of []
noncomputable def L_13 : Loops := Loops.of []
theorem lf_13 : LoopsFn Try.prog C_13 O_13 60 L_13 := LoopsFn.nil' (by kernel_rfl)
def sa_13 : List S2 := [.one (.dat tKernel)]
def ba_13 : List SB := []
def out_13 (r : Int × Int × Int × Int × (List DEntry) × (List Int)) : AV × Store := out1 (.agg [.dat I, .dat I, .dat I, .all 0, .all 1, .dat I]) [.data tEntry, .data I] (r.1, r.2.1, r.2.2.1, r.2.2.2.1, r.2.2.2.2.1, r.2.2.2.2.2, ())
theorem w_13 (x : FAr sa_13 ba_13) : evF C_13 O_13 L_13 60 sa_13 ba_13 x =
 spec_l25CopyK x.1 (fun r => some (out_13 r)) := by kernel_rfl
theorem sem_13 : SemF 60 sa_13 ba_13 (fun x => spec_l25Copy x.1) out_13 :=
 sem_of folP okP tabP (Oracle.of_ok Oracle.nil_ok) lf_13 fun x => (w_13 x).trans (spec_l25Copy_eq x.1 _)
noncomputable def c_13 : Con := Con.shape sa_13 ba_13 (fun x => spec_l25Copy x.1) out_13
theorem ok_13 : ConOk Try.prog 60 c_13 := Con.shape_ok sem_13

/-! 61 -/
def C_14 : Cfg := { T := tab, hint := fun _ => { keepR := [1, 2, 4, 5, 12], res := [4, 5], order := [(3, tns .read 0 6 ++ [(6, .forced), (7, .forced)])] }, mode := fun _ => .borrow }
noncomputable def O_14 : Oracle := Oracle.of [(67, c_2)]
noncomputable def L_14 : Loops := Loops.of []
theorem lf_14 : LoopsFn Try.prog C_14 O_14 61 L_14 := LoopsFn.nil' (by kernel_rfl)
def sa_14 : List S2 := [.one (.dat tKernel), .one (.dat I)]
def ba_14 : List SB := []
def out_14 (r : Bool × Bool) : AV × Store := outT [.one (.dat .bool), .one (.dat .bool)] [] (r.1, r.2, ())
theorem w_14 (x : FAr sa_14 ba_14) : evF C_14 O_14 L_14 61 sa_14 ba_14 x =
 spec_l25SlotK x.1 x.2.1 (fun r => some (out_14 r)) := by kernel_rfl
theorem sem_14 : SemF 61 sa_14 ba_14 (fun x => spec_l25Slot x.1 x.2.1) out_14 :=
 sem_of folP okP tabP (Oracle.of_ok (Oracle.cons_ok ok_2 Oracle.nil_ok)) lf_14 fun x => (w_14 x).trans (spec_l25Slot_eq x.1 x.2.1 _)
noncomputable def c_14 : Con := Con.shape sa_14 ba_14 (fun x => spec_l25Slot x.1 x.2.1) out_14
theorem ok_14 : ConOk Try.prog 61 c_14 := Con.shape_ok sem_14

/-! 81 -/
def C_15 : Cfg := { T := tab, hint := fun _ => { keep := [8], keepR := [0, 2, 3, 4, 6, 8, 12], res := [2], keepX := [(0, [])] }, mode := fun _ => .borrow }
noncomputable def O_15 : Oracle := Oracle.of []
noncomputable def L_15 : Loops := Loops.of []
theorem lf_15 : LoopsFn Try.prog C_15 O_15 81 L_15 := LoopsFn.nil' (by kernel_rfl)
def sa_15 : List S2 := [.one (.dat I)]
def ba_15 : List SB := []
def out_15 (r : Int) : AV × Store := out1 (.one (.dat I)) [] (r, ())
theorem w_15 (x : FAr sa_15 ba_15) : evF C_15 O_15 L_15 81 sa_15 ba_15 x =
 spec_ObjectBitsK x.1 (fun r => some (out_15 r)) := by kernel_rfl
theorem sem_15 : SemF 81 sa_15 ba_15 (fun x => spec_ObjectBits x.1) out_15 :=
 sem_of folP okP tabP (Oracle.of_ok Oracle.nil_ok) lf_15 fun x => (w_15 x).trans (spec_ObjectBits_eq x.1 _)
noncomputable def c_15 : Con := Con.shape sa_15 ba_15 (fun x => spec_ObjectBits x.1) out_15
theorem ok_15 : ConOk Try.prog 81 c_15 := Con.shape_ok sem_15

/-! 123 -/
def C_16 : Cfg := { T := tab, hint := fun _ => { keepR := [1, 2, 4, 5], res := [4] }, mode := fun _ => .borrow }
noncomputable def O_16 : Oracle := Oracle.of []
noncomputable def L_16 : Loops := Loops.of []
theorem lf_16 : LoopsFn Try.prog C_16 O_16 123 L_16 := LoopsFn.nil' (by kernel_rfl)
def sa_16 : List S2 := [.one (.dat tPiece), .one (.dat I)]
def ba_16 : List SB := []
def out_16 (r : Int) : AV × Store := out1 (.one (.dat I)) [] (r, ())
theorem w_16 (x : FAr sa_16 ba_16) : evF C_16 O_16 L_16 123 sa_16 ba_16 x =
 spec_l3FirstK x.1 x.2.1 (fun r => some (out_16 r)) := by kernel_rfl
theorem sem_16 : SemF 123 sa_16 ba_16 (fun x => spec_l3First x.1 x.2.1) out_16 :=
 sem_of folP okP tabP (Oracle.of_ok Oracle.nil_ok) lf_16 fun x => (w_16 x).trans (spec_l3First_eq x.1 x.2.1 _)
noncomputable def c_16 : Con := Con.shape sa_16 ba_16 (fun x => spec_l3First x.1 x.2.1) out_16
theorem ok_16 : ConOk Try.prog 123 c_16 := Con.shape_ok sem_16

/-! 122 -/
def C_17 : Cfg := { T := tab, hint := fun _ => { keepR := [1, 2, 4, 12], res := [4], order := [(3, tns .read 0 7 ++ tns .forced 7 4)] }, mode := fun _ => .borrow }
noncomputable def O_17 : Oracle := Oracle.of [(64, c_4), (67, c_2), (123, c_16)]
noncomputable def L_17 : Loops := Loops.of []
theorem lf_17 : LoopsFn Try.prog C_17 O_17 122 L_17 := LoopsFn.nil' (by kernel_rfl)
def sa_17 : List S2 := [.one (.dat tPiece), .one (.dat I)]
def ba_17 : List SB := []
def out_17 (r : Int) : AV × Store := out1 (.one (.dat I)) [] (r, ())
theorem w_17 (x : FAr sa_17 ba_17) : evF C_17 O_17 L_17 122 sa_17 ba_17 x =
 spec_PieceRoomK x.1 x.2.1 (fun r => some (out_17 r)) := by kernel_rfl
theorem sem_17 : SemF 122 sa_17 ba_17 (fun x => spec_PieceRoom x.1 x.2.1) out_17 :=
 sem_of folP okP tabP (Oracle.of_ok (Oracle.cons_ok ok_4 (Oracle.cons_ok ok_2 (Oracle.cons_ok ok_16 Oracle.nil_ok)))) lf_17 fun x => (w_17 x).trans (spec_PieceRoom_eq x.1 x.2.1 _)
noncomputable def c_17 : Con := Con.shape sa_17 ba_17 (fun x => spec_PieceRoom x.1 x.2.1) out_17
theorem ok_17 : ConOk Try.prog 122 c_17 := Con.shape_ok sem_17

/-! 82 -/
def C_18 : Cfg := { T := tab, hint := fun _ => { mu := [3, 6, 12, 45], keepR := [1, 2, 3, 6, 7, 8, 9, 10, 11, 21, 28, 36], res := [6, 7, 8], keepL := [(0, [1, 2, 3, 6, 9, 10, 11])], keepX := [(0, [3, 6, 9, 10]), (1, [1, 2, 3, 6, 9, 10, 11])] }, mode := fun _ => .borrow }
noncomputable def O_18 : Oracle := Oracle.of [(67, c_2), (122, c_17), (123, c_16)]
def sh_18_l0 : List (Nat × S2) := [(1, .one (.dat I)), (2, .one (.dat I)), (3, .one (.ptr 0 0 0)), (6, .one (.ptr 1 0 0)), (9, .one (.all 2)), (10, .one (.dat I)), (11, .one (.dat I))]
def bs_18_l0 : List SB := [.one tPiece, .one tPiece, .data I]
def xs_18_l0 : List (Nat × S2) := [(3, .one (.ptr 0 0 0)), (6, .one (.ptr 1 0 0)), (9, .one (.all 2)), (10, .one (.dat I))]
def xb_18_l0 : List SB := [.one tPiece, .one tPiece, .data I]
noncomputable def lc_18_l0 : LCon := LCon.shape1 sh_18_l0 bs_18_l0 spec_RetypePiece_l0 (fun a => (.exit 0, encSt xs_18_l0 xb_18_l0 a))
noncomputable def L_18 : Loops := Loops.of [(0, lc_18_l0)]
theorem r_18_l0 (x : FSt sh_18_l0 bs_18_l0) : rdF C_18 O_18 L_18 82 0 0 sh_18_l0 bs_18_l0 x =
 spec_RetypePiece_l0K x.1 x.2.1 x.2.2.1 x.2.2.2.1 x.2.2.2.2.1 x.2.2.2.2.2.1 x.2.2.2.2.2.2.1 (fun y => some (Ex.normal, encSt sh_18_l0 bs_18_l0 y)) (fun a => some (Ex.exit 0, encSt xs_18_l0 xb_18_l0 a)) := by kernel_rfl
theorem lo_18_l0 : loF C_18 O_18 L_18 82 0 0 lc_18_l0 :=
 LCon.shape1_ok (fun a => by simp) fun x => (r_18_l0 x).trans (spec_RetypePiece_l0_eq x.1 x.2.1 x.2.2.1 x.2.2.2.1 x.2.2.2.2.1 x.2.2.2.2.2.1 x.2.2.2.2.2.2.1 _ _)
theorem lf_18 : LoopsFn Try.prog C_18 O_18 82 L_18 := LoopsFn.all (by kernel_rfl) (by decide) ⟨lo_18_l0, trivial⟩
def sa_18 : List S2 := [.one (.dat tPiece), .one (.dat I), .one (.dat I)]
def ba_18 : List SB := []
def out_18 (r : DPiece × Bool × (List Int)) : AV × Store := outT [.one (.dat tPiece), .one (.all 0), .one (.dat .bool)] [.data I] (r.1, r.2.1, r.2.2, ())
theorem w_18 (x : FAr sa_18 ba_18) : evF C_18 O_18 L_18 82 sa_18 ba_18 x =
 spec_RetypePieceK x.1 x.2.1 x.2.2.1 (fun r => some (out_18 r)) := by kernel_rfl
theorem sem_18 : SemF 82 sa_18 ba_18 (fun x => spec_RetypePiece x.1 x.2.1 x.2.2.1) out_18 :=
 sem_of folP okP tabP (Oracle.of_ok (Oracle.cons_ok ok_2 (Oracle.cons_ok ok_17 (Oracle.cons_ok ok_16 Oracle.nil_ok)))) lf_18 fun x => (w_18 x).trans (spec_RetypePiece_eq x.1 x.2.1 x.2.2.1 _)
noncomputable def c_18 : Con := Con.shape sa_18 ba_18 (fun x => spec_RetypePiece x.1 x.2.1 x.2.2.1) out_18
theorem ok_18 : ConOk Try.prog 82 c_18 := Con.shape_ok sem_18

/-! 30 -/
def C_19 : Cfg := { T := tab, hint := fun _ => { mu := [6, 8, 12, 20, 76], keepR := [1, 2, 3, 6, 7, 8, 9, 10, 11, 12, 14, 17, 31, 36, 46, 57], res := [6, 7], fillR := true }, mode := fun _ => .borrow }
noncomputable def O_19 : Oracle := Oracle.of [(23, c_12), (60, c_13), (61, c_14), (81, c_15), (82, c_18)]
noncomputable def L_19 : Loops := Loops.of []
theorem lf_19 : LoopsFn Try.prog C_19 O_19 30 L_19 := LoopsFn.nil' (by kernel_rfl)
def sa_19 : List S2 := [.one (.dat tKernel), .one (.dat I), .one (.dat I)]
def ba_19 : List SB := []
def out_19 (r : Int × Int × Int × Int × Int × (List DEntry) × (List Int)) : AV × Store := outT [.agg [.dat I, .dat I, .dat I, .all 0, .all 1, .dat I], .one (.dat I)] [.data tEntry, .data I] (r.1, r.2.1, r.2.2.1, r.2.2.2.1, r.2.2.2.2.1, r.2.2.2.2.2.1, r.2.2.2.2.2.2, ())
theorem w_19 (x : FAr sa_19 ba_19) : evF C_19 O_19 L_19 30 sa_19 ba_19 x =
 spec_SysRetypeK x.1 x.2.1 x.2.2.1 (fun r => some (out_19 r)) := by kernel_rfl
theorem sem_19 : SemF 30 sa_19 ba_19 (fun x => spec_SysRetype x.1 x.2.1 x.2.2.1) out_19 :=
 sem_of folP okP tabP (Oracle.of_ok (Oracle.cons_ok ok_12 (Oracle.cons_ok ok_13 (Oracle.cons_ok ok_14 (Oracle.cons_ok ok_15 (Oracle.cons_ok ok_18 Oracle.nil_ok)))))) lf_19 fun x => (w_19 x).trans (spec_SysRetype_eq x.1 x.2.1 x.2.2.1 _)
noncomputable def c_19 : Con := Con.shape sa_19 ba_19 (fun x => spec_SysRetype x.1 x.2.1 x.2.2.1) out_19
theorem ok_19 : ConOk Try.prog 30 c_19 := Con.shape_ok sem_19

/-! 108 -/
def C_20 : Cfg := { T := tab, hint := fun _ => { keepR := [0, 1, 4], res := [4] }, mode := fun _ => .borrow }
noncomputable def O_20 : Oracle := Oracle.of [(65, c_9), (67, c_2)]
noncomputable def L_20 : Loops := Loops.of []
theorem lf_20 : LoopsFn Try.prog C_20 O_20 108 L_20 := LoopsFn.nil' (by kernel_rfl)
def sa_20 : List S2 := [.one (.dat (.sl tEntry)), .one (.dat I)]
def ba_20 : List SB := []
def out_20 (r : Bool) : AV × Store := out1 (.one (.dat .bool)) [] (r, ())
theorem w_20 (x : FAr sa_20 ba_20) : evF C_20 O_20 L_20 108 sa_20 ba_20 x =
 spec_l5LiveK x.1 x.2.1 (fun r => some (out_20 r)) := by kernel_rfl
theorem sem_20 : SemF 108 sa_20 ba_20 (fun x => spec_l5Live x.1 x.2.1) out_20 :=
 sem_of folP okP tabP (Oracle.of_ok (Oracle.cons_ok ok_9 (Oracle.cons_ok ok_2 Oracle.nil_ok))) lf_20 fun x => (w_20 x).trans (spec_l5Live_eq x.1 x.2.1 _)
noncomputable def c_20 : Con := Con.shape sa_20 ba_20 (fun x => spec_l5Live x.1 x.2.1) out_20
theorem ok_20 : ConOk Try.prog 108 c_20 := Con.shape_ok sem_20

/-! 109 -/
def C_21 : Cfg := { T := tab, hint := fun _ => { mu := [6, 8], keepR := [1, 2, 3, 6, 7, 8, 51, 60], res := [6, 7] }, mode := fun _ => .borrow }
noncomputable def O_21 : Oracle := Oracle.of [(67, c_2), (110, c_7), (134, c_5), (135, c_6)]
noncomputable def L_21 : Loops := Loops.of []
theorem lf_21 : LoopsFn Try.prog C_21 O_21 109 L_21 := LoopsFn.nil' (by kernel_rfl)
def sa_21 : List S2 := [.one (.dat tCap), .one (.dat I), .one (.dat I)]
def ba_21 : List SB := []
def out_21 (r : DCap × Bool) : AV × Store := outT [.one (.dat tCap), .one (.dat .bool)] [] (r.1, r.2, ())
theorem w_21 (x : FAr sa_21 ba_21) : evF C_21 O_21 L_21 109 sa_21 ba_21 x =
 spec_MintCapK x.1 x.2.1 x.2.2.1 (fun r => some (out_21 r)) := by kernel_rfl
theorem sem_21 : SemF 109 sa_21 ba_21 (fun x => spec_MintCap x.1 x.2.1 x.2.2.1) out_21 :=
 sem_of folP okP tabP (Oracle.of_ok (Oracle.cons_ok ok_2 (Oracle.cons_ok ok_7 (Oracle.cons_ok ok_5 (Oracle.cons_ok ok_6 Oracle.nil_ok))))) lf_21 fun x => (w_21 x).trans (spec_MintCap_eq x.1 x.2.1 x.2.2.1 _)
noncomputable def c_21 : Con := Con.shape sa_21 ba_21 (fun x => spec_MintCap x.1 x.2.1 x.2.2.1) out_21
theorem ok_21 : ConOk Try.prog 109 c_21 := Con.shape_ok sem_21

/-! 62 -/
def C_22 : Cfg := { T := tab, hint := fun _ => { mu := [12, 18, 21, 46], keepR := [0, 1, 2, 3, 8, 9, 10, 11, 12, 13, 17, 39], res := [8, 9, 10] }, mode := fun _ => .borrow }
noncomputable def O_22 : Oracle := Oracle.of [(108, c_20), (109, c_21)]
noncomputable def L_22 : Loops := Loops.of []
theorem lf_22 : LoopsFn Try.prog C_22 O_22 62 L_22 := LoopsFn.nil' (by kernel_rfl)
def sa_22 : List S2 := [.one (.dat (.sl tEntry)), .one (.dat I), .one (.dat I), .one (.dat I)]
def ba_22 : List SB := []
def out_22 (r : Int × Bool × (List DEntry)) : AV × Store := outT [.one (.all 0), .one (.dat I), .one (.dat .bool)] [.data tEntry] (r.1, r.2.1, r.2.2, ())
theorem w_22 (x : FAr sa_22 ba_22) : evF C_22 O_22 L_22 62 sa_22 ba_22 x =
 spec_DeriveCapK x.1 x.2.1 x.2.2.1 x.2.2.2.1 (fun r => some (out_22 r)) := by kernel_rfl
theorem sem_22 : SemF 62 sa_22 ba_22 (fun x => spec_DeriveCap x.1 x.2.1 x.2.2.1 x.2.2.2.1) out_22 :=
 sem_of folP okP tabP (Oracle.of_ok (Oracle.cons_ok ok_20 (Oracle.cons_ok ok_21 Oracle.nil_ok))) lf_22 fun x => (w_22 x).trans (spec_DeriveCap_eq x.1 x.2.1 x.2.2.1 x.2.2.2.1 _)
noncomputable def c_22 : Con := Con.shape sa_22 ba_22 (fun x => spec_DeriveCap x.1 x.2.1 x.2.2.1 x.2.2.2.1) out_22
theorem ok_22 : ConOk Try.prog 62 c_22 := Con.shape_ok sem_22

/-! 21 -/
def C_23 : Cfg := { T := tab, hint := fun _ => { mu := [10, 12, 25, 63], keepR := [1, 2, 3, 4, 5, 10, 11, 12, 14, 15, 16, 17, 18, 19, 22, 46, 51, 68], res := [10, 11], order := [(10, tns .read 0 8 ++ [(8, .forced), (9, .forced), (10, .forced), (11, .read), (12, .read), (13, .read), (14, .forced), (15, .forced), (16, .forced)])], fillR := true }, mode := fun _ => .borrow }
noncomputable def O_23 : Oracle := Oracle.of [(23, c_12), (60, c_13), (61, c_14), (62, c_22)]
noncomputable def L_23 : Loops := Loops.of []
theorem lf_23 : LoopsFn Try.prog C_23 O_23 21 L_23 := LoopsFn.nil' (by kernel_rfl)
def sa_23 : List S2 := [.one (.dat tKernel), .one (.dat I), .one (.dat I), .one (.dat I), .one (.dat I)]
def ba_23 : List SB := []
def out_23 (r : Int × Int × Int × Int × Int × (List DEntry) × (List Int)) : AV × Store := outT [.agg [.dat I, .dat I, .dat I, .all 0, .all 1, .dat I], .one (.dat I)] [.data tEntry, .data I] (r.1, r.2.1, r.2.2.1, r.2.2.2.1, r.2.2.2.2.1, r.2.2.2.2.2.1, r.2.2.2.2.2.2, ())
theorem w_23 (x : FAr sa_23 ba_23) : evF C_23 O_23 L_23 21 sa_23 ba_23 x =
 spec_SysMintK x.1 x.2.1 x.2.2.1 x.2.2.2.1 x.2.2.2.2.1 (fun r => some (out_23 r)) := by kernel_rfl
theorem sem_23 : SemF 21 sa_23 ba_23 (fun x => spec_SysMint x.1 x.2.1 x.2.2.1 x.2.2.2.1 x.2.2.2.2.1) out_23 :=
 sem_of folP okP tabP (Oracle.of_ok (Oracle.cons_ok ok_12 (Oracle.cons_ok ok_13 (Oracle.cons_ok ok_14 (Oracle.cons_ok ok_22 Oracle.nil_ok))))) lf_23 fun x => (w_23 x).trans (spec_SysMint_eq x.1 x.2.1 x.2.2.1 x.2.2.2.1 x.2.2.2.2.1 _)
noncomputable def c_23 : Con := Con.shape sa_23 ba_23 (fun x => spec_SysMint x.1 x.2.1 x.2.2.1 x.2.2.2.1 x.2.2.2.2.1) out_23
theorem ok_23 : ConOk Try.prog 21 c_23 := Con.shape_ok sem_23

/-! 102 -/
def C_24 : Cfg := { T := tab, hint := fun _ => { mu := [11, 14], keepR := [0, 1, 4, 5, 6, 10, 20, 37], res := [4], keepL := [(0, [0, 1, 5, 6])], keepX := [(0, [1, 5]), (1, [0, 1, 5, 6])] }, mode := fun _ => .borrow }
noncomputable def O_24 : Oracle := Oracle.of [(108, c_20)]
def sh_24_l0 : List (Nat × S2) := [(0, .one (.dat (.sl tEntry))), (1, .one (.dat I)), (5, .one (.all 0)), (6, .one (.dat I))]
def bs_24_l0 : List SB := [.data tEntry]
def xs_24_l0 : List (Nat × S2) := [(1, .one (.dat I)), (5, .one (.all 0))]
def xb_24_l0 : List SB := [.data tEntry]
noncomputable def lc_24_l0 : LCon := LCon.shape1 sh_24_l0 bs_24_l0 spec_RemoveCap_l0 (fun a => (.exit 0, encSt xs_24_l0 xb_24_l0 a))
noncomputable def L_24 : Loops := Loops.of [(0, lc_24_l0)]
theorem r_24_l0 (x : FSt sh_24_l0 bs_24_l0) : rdF C_24 O_24 L_24 102 0 0 sh_24_l0 bs_24_l0 x =
 spec_RemoveCap_l0K x.1 x.2.1 x.2.2.1 x.2.2.2.1 (fun y => some (Ex.normal, encSt sh_24_l0 bs_24_l0 y)) (fun a => some (Ex.exit 0, encSt xs_24_l0 xb_24_l0 a)) := by kernel_rfl
theorem lo_24_l0 : loF C_24 O_24 L_24 102 0 0 lc_24_l0 :=
 LCon.shape1_ok (fun a => by simp) fun x => (r_24_l0 x).trans (spec_RemoveCap_l0_eq x.1 x.2.1 x.2.2.1 x.2.2.2.1 _ _)
theorem lf_24 : LoopsFn Try.prog C_24 O_24 102 L_24 := LoopsFn.all (by kernel_rfl) (by decide) ⟨lo_24_l0, trivial⟩
def sa_24 : List S2 := [.one (.dat (.sl tEntry)), .one (.dat I)]
def ba_24 : List SB := []
def out_24 (r : (List DEntry)) : AV × Store := out1 (.one (.all 0)) [.data tEntry] (r, ())
theorem w_24 (x : FAr sa_24 ba_24) : evF C_24 O_24 L_24 102 sa_24 ba_24 x =
 spec_RemoveCapK x.1 x.2.1 (fun r => some (out_24 r)) := by kernel_rfl
theorem sem_24 : SemF 102 sa_24 ba_24 (fun x => spec_RemoveCap x.1 x.2.1) out_24 :=
 sem_of folP okP tabP (Oracle.of_ok (Oracle.cons_ok ok_20 Oracle.nil_ok)) lf_24 fun x => (w_24 x).trans (spec_RemoveCap_eq x.1 x.2.1 _)
noncomputable def c_24 : Con := Con.shape sa_24 ba_24 (fun x => spec_RemoveCap x.1 x.2.1) out_24
theorem ok_24 : ConOk Try.prog 102 c_24 := Con.shape_ok sem_24

/-! 47 -/
def C_25 : Cfg := { T := tab, hint := fun _ => { mu := [4, 6, 14, 31], keepR := [1, 2, 4, 5, 6, 8, 11, 22], res := [4, 5], order := [(7, tns .read 0 4 ++ tns .forced 4 6)], fillR := true }, mode := fun _ => .borrow }
noncomputable def O_25 : Oracle := Oracle.of [(23, c_12), (60, c_13), (61, c_14), (102, c_24)]
noncomputable def L_25 : Loops := Loops.of []
theorem lf_25 : LoopsFn Try.prog C_25 O_25 47 L_25 := LoopsFn.nil' (by kernel_rfl)
def sa_25 : List S2 := [.one (.dat tKernel), .one (.dat I)]
def ba_25 : List SB := []
def out_25 (r : Int × Int × Int × Int × Int × (List DEntry) × (List Int)) : AV × Store := outT [.agg [.dat I, .dat I, .dat I, .all 0, .all 1, .dat I], .one (.dat I)] [.data tEntry, .data I] (r.1, r.2.1, r.2.2.1, r.2.2.2.1, r.2.2.2.2.1, r.2.2.2.2.2.1, r.2.2.2.2.2.2, ())
theorem w_25 (x : FAr sa_25 ba_25) : evF C_25 O_25 L_25 47 sa_25 ba_25 x =
 spec_SysDeleteK x.1 x.2.1 (fun r => some (out_25 r)) := by kernel_rfl
theorem sem_25 : SemF 47 sa_25 ba_25 (fun x => spec_SysDelete x.1 x.2.1) out_25 :=
 sem_of folP okP tabP (Oracle.of_ok (Oracle.cons_ok ok_12 (Oracle.cons_ok ok_13 (Oracle.cons_ok ok_14 (Oracle.cons_ok ok_24 Oracle.nil_ok))))) lf_25 fun x => (w_25 x).trans (spec_SysDelete_eq x.1 x.2.1 _)
noncomputable def c_25 : Con := Con.shape sa_25 ba_25 (fun x => spec_SysDelete x.1 x.2.1) out_25
theorem ok_25 : ConOk Try.prog 47 c_25 := Con.shape_ok sem_25

/-! 140 -/
def C_26 : Cfg := { T := tab, hint := fun _ => { keepR := [0, 1, 2, 6, 11, 19], res := [6], keepL := [(0, [0, 1, 2])], keepX := [(0, [1, 2]), (1, [0, 1, 2])] }, mode := fun _ => .borrow }
noncomputable def O_26 : Oracle := Oracle.of []
def sh_26_l0 : List (Nat × S2) := [(0, .one (.dat (.sl tEntry))), (1, .one (.dat I)), (2, .one (.dat I))]
def bs_26_l0 : List SB := []
def xs_26_l0 : List (Nat × S2) := [(1, .one (.dat I)), (2, .one (.dat I))]
def xb_26_l0 : List SB := []
noncomputable def lc_26_l0 : LCon := LCon.shape1 sh_26_l0 bs_26_l0 spec_l5Below_l0 (fun a => (.exit 0, encSt xs_26_l0 xb_26_l0 a))
noncomputable def L_26 : Loops := Loops.of [(0, lc_26_l0)]
theorem r_26_l0 (x : FSt sh_26_l0 bs_26_l0) : rdF C_26 O_26 L_26 140 0 0 sh_26_l0 bs_26_l0 x =
 spec_l5Below_l0K x.1 x.2.1 x.2.2.1 (fun y => some (Ex.normal, encSt sh_26_l0 bs_26_l0 y)) (fun a => some (Ex.exit 0, encSt xs_26_l0 xb_26_l0 a)) := by kernel_rfl
theorem lo_26_l0 : loF C_26 O_26 L_26 140 0 0 lc_26_l0 :=
 LCon.shape1_ok (fun a => by simp) fun x => (r_26_l0 x).trans (spec_l5Below_l0_eq x.1 x.2.1 x.2.2.1 _ _)
theorem lf_26 : LoopsFn Try.prog C_26 O_26 140 L_26 := LoopsFn.all (by kernel_rfl) (by decide) ⟨lo_26_l0, trivial⟩
def sa_26 : List S2 := [.one (.dat (.sl tEntry)), .one (.dat I), .one (.dat I)]
def ba_26 : List SB := []
def out_26 (r : Bool) : AV × Store := out1 (.one (.dat .bool)) [] (r, ())
theorem w_26 (x : FAr sa_26 ba_26) : evF C_26 O_26 L_26 140 sa_26 ba_26 x =
 spec_l5BelowK x.1 x.2.1 x.2.2.1 (fun r => some (out_26 r)) := by kernel_rfl
theorem sem_26 : SemF 140 sa_26 ba_26 (fun x => spec_l5Below x.1 x.2.1 x.2.2.1) out_26 :=
 sem_of folP okP tabP (Oracle.of_ok Oracle.nil_ok) lf_26 fun x => (w_26 x).trans (spec_l5Below_eq x.1 x.2.1 x.2.2.1 _)
noncomputable def c_26 : Con := Con.shape sa_26 ba_26 (fun x => spec_l5Below x.1 x.2.1 x.2.2.1) out_26
theorem ok_26 : ConOk Try.prog 140 c_26 := Con.shape_ok sem_26

/-! 128 -/
def C_27 : Cfg := { T := tab, hint := fun _ => { mu := [7, 28], keepR := [0, 1, 4, 5, 6, 18, 24], res := [4], keepL := [(0, [0, 1, 5, 6])], keepX := [(0, [5]), (1, [0, 1, 5, 6])] }, mode := fun _ => .borrow }
noncomputable def O_27 : Oracle := Oracle.of [(108, c_20), (140, c_26)]
def sh_27_l0 : List (Nat × S2) := [(0, .one (.dat (.sl tEntry))), (1, .one (.dat I)), (5, .one (.all 0)), (6, .one (.dat I))]
def bs_27_l0 : List SB := [.data I]
def xs_27_l0 : List (Nat × S2) := [(5, .one (.all 0))]
def xb_27_l0 : List SB := [.data I]
noncomputable def lc_27_l0 : LCon := LCon.shape1 sh_27_l0 bs_27_l0 spec_Descendants_l0 (fun a => (.exit 0, encSt xs_27_l0 xb_27_l0 a))
noncomputable def L_27 : Loops := Loops.of [(0, lc_27_l0)]
theorem r_27_l0 (x : FSt sh_27_l0 bs_27_l0) : rdF C_27 O_27 L_27 128 0 0 sh_27_l0 bs_27_l0 x =
 spec_Descendants_l0K x.1 x.2.1 x.2.2.1 x.2.2.2.1 (fun y => some (Ex.normal, encSt sh_27_l0 bs_27_l0 y)) (fun a => some (Ex.exit 0, encSt xs_27_l0 xb_27_l0 a)) := by kernel_rfl
theorem lo_27_l0 : loF C_27 O_27 L_27 128 0 0 lc_27_l0 :=
 LCon.shape1_ok (fun a => by simp) fun x => (r_27_l0 x).trans (spec_Descendants_l0_eq x.1 x.2.1 x.2.2.1 x.2.2.2.1 _ _)
theorem lf_27 : LoopsFn Try.prog C_27 O_27 128 L_27 := LoopsFn.all (by kernel_rfl) (by decide) ⟨lo_27_l0, trivial⟩
def sa_27 : List S2 := [.one (.dat (.sl tEntry)), .one (.dat I)]
def ba_27 : List SB := []
def out_27 (r : (List Int)) : AV × Store := out1 (.one (.all 0)) [.data I] (r, ())
theorem w_27 (x : FAr sa_27 ba_27) : evF C_27 O_27 L_27 128 sa_27 ba_27 x =
 spec_DescendantsK x.1 x.2.1 (fun r => some (out_27 r)) := by kernel_rfl
theorem sem_27 : SemF 128 sa_27 ba_27 (fun x => spec_Descendants x.1 x.2.1) out_27 :=
 sem_of folP okP tabP (Oracle.of_ok (Oracle.cons_ok ok_20 (Oracle.cons_ok ok_26 Oracle.nil_ok))) lf_27 fun x => (w_27 x).trans (spec_Descendants_eq x.1 x.2.1 _)
noncomputable def c_27 : Con := Con.shape sa_27 ba_27 (fun x => spec_Descendants x.1 x.2.1) out_27
theorem ok_27 : ConOk Try.prog 128 c_27 := Con.shape_ok sem_27

/-! 93 -/
def C_28 : Cfg := { T := tab, hint := fun _ => { mu := [12, 15], keepR := [0, 1, 4, 5, 6, 7, 11, 22], res := [4], keepL := [(0, [5, 6, 7])], keepX := [(0, [5]), (1, [5, 6, 7])] }, mode := fun _ => .borrow }
noncomputable def O_28 : Oracle := Oracle.of [(108, c_20), (128, c_27)]
def sh_28_l0 : List (Nat × S2) := [(5, .one (.all 0)), (6, .one (.dat (.sl I))), (7, .one (.dat I))]
def bs_28_l0 : List SB := [.data tEntry]
def xs_28_l0 : List (Nat × S2) := [(5, .one (.all 0))]
def xb_28_l0 : List SB := [.data tEntry]
noncomputable def lc_28_l0 : LCon := LCon.shape1 sh_28_l0 bs_28_l0 spec_RevokeCap_l0 (fun a => (.exit 0, encSt xs_28_l0 xb_28_l0 a))
noncomputable def L_28 : Loops := Loops.of [(0, lc_28_l0)]
theorem r_28_l0 (x : FSt sh_28_l0 bs_28_l0) : rdF C_28 O_28 L_28 93 0 0 sh_28_l0 bs_28_l0 x =
 spec_RevokeCap_l0K x.1 x.2.1 x.2.2.1 (fun y => some (Ex.normal, encSt sh_28_l0 bs_28_l0 y)) (fun a => some (Ex.exit 0, encSt xs_28_l0 xb_28_l0 a)) := by kernel_rfl
theorem lo_28_l0 : loF C_28 O_28 L_28 93 0 0 lc_28_l0 :=
 LCon.shape1_ok (fun a => by simp) fun x => (r_28_l0 x).trans (spec_RevokeCap_l0_eq x.1 x.2.1 x.2.2.1 _ _)
theorem lf_28 : LoopsFn Try.prog C_28 O_28 93 L_28 := LoopsFn.all (by kernel_rfl) (by decide) ⟨lo_28_l0, trivial⟩
def sa_28 : List S2 := [.one (.dat (.sl tEntry)), .one (.dat I)]
def ba_28 : List SB := []
def out_28 (r : (List DEntry)) : AV × Store := out1 (.one (.all 0)) [.data tEntry] (r, ())
theorem w_28 (x : FAr sa_28 ba_28) : evF C_28 O_28 L_28 93 sa_28 ba_28 x =
 spec_RevokeCapK x.1 x.2.1 (fun r => some (out_28 r)) := by kernel_rfl
theorem sem_28 : SemF 93 sa_28 ba_28 (fun x => spec_RevokeCap x.1 x.2.1) out_28 :=
 sem_of folP okP tabP (Oracle.of_ok (Oracle.cons_ok ok_20 (Oracle.cons_ok ok_27 Oracle.nil_ok))) lf_28 fun x => (w_28 x).trans (spec_RevokeCap_eq x.1 x.2.1 _)
noncomputable def c_28 : Con := Con.shape sa_28 ba_28 (fun x => spec_RevokeCap x.1 x.2.1) out_28
theorem ok_28 : ConOk Try.prog 93 c_28 := Con.shape_ok sem_28

/-! 39 -/
def C_29 : Cfg := { T := tab, hint := fun _ => { mu := [4, 6, 15, 32], keepR := [1, 2, 4, 5, 6, 8, 9, 12, 23, 38, 58], res := [4, 5], order := [(7, tns .read 0 4 ++ tns .forced 4 6), (11, [(0, .read), (1, .read)] ++ tns .forced 2 5 ++ tns .read 7 4 ++ tns .forced 11 7)], keepL := [(0, [4, 6, 9])], keepX := [(0, [4, 6]), (1, [4, 6, 9])], fillR := true }, mode := fun _ => .borrow }
noncomputable def O_29 : Oracle := Oracle.of [(23, c_12), (60, c_13), (61, c_14), (93, c_28)]
def sh_29_l0 : List (Nat × S2) := [(4, .one (.ptr 0 0 0)), (6, .one (.ptr 1 0 0)), (9, .one (.dat I))]
def bs_29_l0 : List SB := [.var [.dat I, .dat I, .dat I, .e0 tEntry, .e0 I, .dat I], .var [.dat I, .dat I, .dat I, .all 2, .all 3, .dat I], .data tEntry, .data I]
def xs_29_l0 : List (Nat × S2) := [(4, .one (.ptr 0 0 0)), (6, .one (.ptr 1 0 0))]
def xb_29_l0 : List SB := [.var [.dat I, .dat I, .dat I, .e0 tEntry, .e0 I, .dat I], .var [.dat I, .dat I, .dat I, .all 2, .all 3, .dat I], .data tEntry, .data I]
noncomputable def lc_29_l0 : LCon := LCon.shape1 sh_29_l0 bs_29_l0 spec_SysRevoke_l0 (fun a => (.exit 0, encSt xs_29_l0 xb_29_l0 a))
noncomputable def L_29 : Loops := Loops.of [(0, lc_29_l0)]
theorem r_29_l0 (x : FSt sh_29_l0 bs_29_l0) : rdF C_29 O_29 L_29 39 0 0 sh_29_l0 bs_29_l0 x =
 spec_SysRevoke_l0K x.1 x.2.1 x.2.2.1 x.2.2.2.1 x.2.2.2.2.1 x.2.2.2.2.2.1 x.2.2.2.2.2.2.1 x.2.2.2.2.2.2.2.1 x.2.2.2.2.2.2.2.2.1 x.2.2.2.2.2.2.2.2.2.1 x.2.2.2.2.2.2.2.2.2.2.1 (fun y => some (Ex.normal, encSt sh_29_l0 bs_29_l0 y)) (fun a => some (Ex.exit 0, encSt xs_29_l0 xb_29_l0 a)) := by kernel_rfl
theorem lo_29_l0 : loF C_29 O_29 L_29 39 0 0 lc_29_l0 :=
 LCon.shape1_ok (fun a => by simp) fun x => (r_29_l0 x).trans (spec_SysRevoke_l0_eq x.1 x.2.1 x.2.2.1 x.2.2.2.1 x.2.2.2.2.1 x.2.2.2.2.2.1 x.2.2.2.2.2.2.1 x.2.2.2.2.2.2.2.1 x.2.2.2.2.2.2.2.2.1 x.2.2.2.2.2.2.2.2.2.1 x.2.2.2.2.2.2.2.2.2.2.1 _ _)
theorem lf_29 : LoopsFn Try.prog C_29 O_29 39 L_29 := LoopsFn.all (by kernel_rfl) (by decide) ⟨lo_29_l0, trivial⟩
def sa_29 : List S2 := [.one (.dat tKernel), .one (.dat I)]
def ba_29 : List SB := []
def out_29 (r : Int × Int × Int × Int × Int × (List DEntry) × (List Int)) : AV × Store := outT [.agg [.dat I, .dat I, .dat I, .all 0, .all 1, .dat I], .one (.dat I)] [.data tEntry, .data I] (r.1, r.2.1, r.2.2.1, r.2.2.2.1, r.2.2.2.2.1, r.2.2.2.2.2.1, r.2.2.2.2.2.2, ())
theorem w_29 (x : FAr sa_29 ba_29) : evF C_29 O_29 L_29 39 sa_29 ba_29 x =
 spec_SysRevokeK x.1 x.2.1 (fun r => some (out_29 r)) := by kernel_rfl
theorem sem_29 : SemF 39 sa_29 ba_29 (fun x => spec_SysRevoke x.1 x.2.1) out_29 :=
 sem_of folP okP tabP (Oracle.of_ok (Oracle.cons_ok ok_12 (Oracle.cons_ok ok_13 (Oracle.cons_ok ok_14 (Oracle.cons_ok ok_28 Oracle.nil_ok))))) lf_29 fun x => (w_29 x).trans (spec_SysRevoke_eq x.1 x.2.1 _)
noncomputable def c_29 : Con := Con.shape sa_29 ba_29 (fun x => spec_SysRevoke x.1 x.2.1) out_29
theorem ok_29 : ConOk Try.prog 39 c_29 := Con.shape_ok sem_29

/-! 105 -/
def C_30 : Cfg := { T := tab, hint := fun _ => { keepR := [0, 1, 4], res := [4], base := 1 }, mode := modeOf [(55, .sub)] }
noncomputable def O_30 : Oracle := Oracle.of [(55, c_1)]
noncomputable def L_30 : Loops := Loops.of []
theorem lf_30 : LoopsFn Try.prog C_30 O_30 105 L_30 := LoopsFn.nil' (by kernel_rfl)
def sa_30 : List S2 := [.one (.ptr 0 0 0), .one (.dat I)]
def ba_30 : List SB := [.one tl20Rd]
def out_30 (r : Bool × Dl20Rd) : AV × Store := out1 (.one (.dat .bool)) [.one tl20Rd] (r.1, r.2, ())
theorem w_30 (x : FAr sa_30 ba_30) : evF C_30 O_30 L_30 105 sa_30 ba_30 x =
 spec_l20Rd_oddK x.1 x.2.1 (fun r => some (out_30 r)) := by kernel_rfl
theorem sem_30 : SemF 105 sa_30 ba_30 (fun x => spec_l20Rd_odd x.1 x.2.1) out_30 :=
 sem_of folP okP tabP (Oracle.of_ok (Oracle.cons_ok ok_1 Oracle.nil_ok)) lf_30 fun x => (w_30 x).trans (spec_l20Rd_odd_eq x.1 x.2.1 _)
noncomputable def c_30 : Con := Con.shape sa_30 ba_30 (fun x => spec_l20Rd_odd x.1 x.2.1) out_30
theorem ok_30 : ConOk Try.prog 105 c_30 := Con.shape_ok sem_30

/-! 52 -/
def C_31 : Cfg := { T := tab, hint := fun _ => { mu := [4, 5, 17, 39, 52, 72, 80, 93, 108], keep := [42, 55], keepR := [0, 1, 4, 5, 6, 7, 8, 21, 35, 42, 55, 75, 85, 87, 95, 103, 110], res := [4], base := 1, order := [(1, [(1, .read), (0, .pure), (5, .pure), (2, .over), (3, .pure), (4, .pure), (6, .over), (7, .read), (9, .late), (8, .forced), (10, .adopt 9), (10, .forced)]), (12, [(1, .read), (4, .pure), (0, .aside [0]), (2, .forced), (3, .forced), (5, .forced), (6, .forced), (7, .read), (8, .pure), (9, .forced)]), (15, [(3, .read), (1, .pure), (2, .pure), (5, .pure), (9, .pure), (0, .aside [0]), (4, .forced), (6, .forced), (7, .pure), (8, .pure)] ++ tns .forced 10 5 ++ [(15, .read), (16, .pure), (17, .forced)])], keepL := [(0, [0, 1, 4, 5, 6])], keepX := [(0, [0, 1, 4, 5]), (1, [0, 1, 4, 5, 6]), (2, [0, 1, 4, 5, 6]), (3, [4, 5])] }, mode := modeOf [(55, .sub), (105, .sub)] }
noncomputable def O_31 : Oracle := Oracle.of [(21, c_23), (30, c_19), (32, c_3), (39, c_29), (47, c_25), (55, c_1), (105, c_30)]
def sh_31_l0 : List (Nat × S2) := [(0, .one (.ptr 0 0 0)), (1, .one (.dat I)), (4, .one (.ptr 1 0 0)), (5, .one (.ptr 2 0 0)), (6, .one (.dat I))]
def bs_31_l0 : List SB := [.one tl20Rd, .var [.dat I, .dat I, .dat I, .e0 tEntry, .e0 I, .dat I], .var [.dat I, .dat I, .dat I, .all 3, .all 4, .dat I], .data tEntry, .data I]
def xs_31_l0 : List (Nat × S2) := [(0, .one (.ptr 0 0 0)), (1, .one (.dat I)), (4, .one (.ptr 1 0 0)), (5, .one (.ptr 2 0 0))]
def xb_31_l0 : List SB := [.one tl20Rd, .var [.dat I, .dat I, .dat I, .e0 tEntry, .e0 I, .dat I], .var [.dat I, .dat I, .dat I, .all 3, .all 4, .dat I], .data tEntry, .data I]
noncomputable def lc_31_l0 : LCon := LCon.shape1 sh_31_l0 bs_31_l0 spec_l20Kernel_l0 (fun a => (.exit 0, encSt xs_31_l0 xb_31_l0 a))
noncomputable def L_31 : Loops := Loops.of [(0, lc_31_l0)]
theorem r_31_l0 (x : FSt sh_31_l0 bs_31_l0) : rdF C_31 O_31 L_31 52 0 0 sh_31_l0 bs_31_l0 x =
 spec_l20Kernel_l0K x.1 x.2.1 x.2.2.1 x.2.2.2.1 x.2.2.2.2.1 x.2.2.2.2.2.1 x.2.2.2.2.2.2.1 x.2.2.2.2.2.2.2.1 x.2.2.2.2.2.2.2.2.1 x.2.2.2.2.2.2.2.2.2.1 x.2.2.2.2.2.2.2.2.2.2.1 x.2.2.2.2.2.2.2.2.2.2.2.1 x.2.2.2.2.2.2.2.2.2.2.2.2.1 (fun y => some (Ex.normal, encSt sh_31_l0 bs_31_l0 y)) (fun a => some (Ex.exit 0, encSt xs_31_l0 xb_31_l0 a)) := by kernel_rfl
theorem lo_31_l0 : loF C_31 O_31 L_31 52 0 0 lc_31_l0 :=
 LCon.shape1_ok (fun a => by simp) fun x => (r_31_l0 x).trans (spec_l20Kernel_l0_eq x.1 x.2.1 x.2.2.1 x.2.2.2.1 x.2.2.2.2.1 x.2.2.2.2.2.1 x.2.2.2.2.2.2.1 x.2.2.2.2.2.2.2.1 x.2.2.2.2.2.2.2.2.1 x.2.2.2.2.2.2.2.2.2.1 x.2.2.2.2.2.2.2.2.2.2.1 x.2.2.2.2.2.2.2.2.2.2.2.1 x.2.2.2.2.2.2.2.2.2.2.2.2.1 _ _)
theorem lf_31 : LoopsFn Try.prog C_31 O_31 52 L_31 := LoopsFn.all (by kernel_rfl) (by decide) ⟨lo_31_l0, trivial⟩
def sa_31 : List S2 := [.one (.ptr 0 0 0), .one (.dat I)]
def ba_31 : List SB := [.one tl20Rd]
def out_31 (r : Int × Int × Int × Int × Dl20Rd × (List DEntry) × (List Int)) : AV × Store := out1 (.agg [.dat I, .dat I, .dat I, .all 1, .all 2, .dat I]) [.one tl20Rd, .data tEntry, .data I] (r.1, r.2.1, r.2.2.1, r.2.2.2.1, r.2.2.2.2.1, r.2.2.2.2.2.1, r.2.2.2.2.2.2, ())
theorem w_31 (x : FAr sa_31 ba_31) : evF C_31 O_31 L_31 52 sa_31 ba_31 x =
 spec_l20KernelK x.1 x.2.1 (fun r => some (out_31 r)) := by kernel_rfl
theorem sem_31 : SemF 52 sa_31 ba_31 (fun x => spec_l20Kernel x.1 x.2.1) out_31 :=
 sem_of folP okP tabP (Oracle.of_ok (Oracle.cons_ok ok_23 (Oracle.cons_ok ok_19 (Oracle.cons_ok ok_3 (Oracle.cons_ok ok_29 (Oracle.cons_ok ok_25 (Oracle.cons_ok ok_1 (Oracle.cons_ok ok_30 Oracle.nil_ok)))))))) lf_31 fun x => (w_31 x).trans (spec_l20Kernel_eq x.1 x.2.1 _)
noncomputable def c_31 : Con := Con.shape sa_31 ba_31 (fun x => spec_l20Kernel x.1 x.2.1) out_31
theorem ok_31 : ConOk Try.prog 52 c_31 := Con.shape_ok sem_31

/-! 53 -/
def C_32 : Cfg := { T := tab, hint := fun _ => { mu := [3], keepR := [0, 3, 4], res := [4], base := 3 }, mode := modeOf [(55, .sub)] }
noncomputable def O_32 : Oracle := Oracle.of [(55, c_1)]
noncomputable def L_32 : Loops := Loops.of []
theorem lf_32 : LoopsFn Try.prog C_32 O_32 53 L_32 := LoopsFn.nil' (by kernel_rfl)
def sa_32 : List S2 := [.one (.ptr 0 0 0), .agg [.dat I, .dat I, .dat I, .all 1, .all 2, .dat I]]
def ba_32 : List SB := [.one tl20Rd, .data tEntry, .data I]
def out_32 (r : Int × Dl20Rd × (List DEntry) × (List Int)) : AV × Store := out1 (.one (.dat I)) [.one tl20Rd, .data tEntry, .data I] (r.1, r.2.1, r.2.2.1, r.2.2.2, ())
theorem w_32 (x : FAr sa_32 ba_32) : evF C_32 O_32 L_32 53 sa_32 ba_32 x =
 spec_l20SiteK x.1 x.2.1 x.2.2.1 x.2.2.2.1 x.2.2.2.2.1 x.2.2.2.2.2.1 x.2.2.2.2.2.2.1 (fun r => some (out_32 r)) := by kernel_rfl
theorem sem_32 : SemF 53 sa_32 ba_32 (fun x => spec_l20Site x.1 x.2.1 x.2.2.1 x.2.2.2.1 x.2.2.2.2.1 x.2.2.2.2.2.1 x.2.2.2.2.2.2.1) out_32 :=
 sem_of folP okP tabP (Oracle.of_ok (Oracle.cons_ok ok_1 Oracle.nil_ok)) lf_32 fun x => (w_32 x).trans (spec_l20Site_eq x.1 x.2.1 x.2.2.1 x.2.2.2.1 x.2.2.2.2.1 x.2.2.2.2.2.1 x.2.2.2.2.2.2.1 _)
noncomputable def c_32 : Con := Con.shape sa_32 ba_32 (fun x => spec_l20Site x.1 x.2.1 x.2.2.1 x.2.2.2.1 x.2.2.2.2.1 x.2.2.2.2.2.1 x.2.2.2.2.2.2.1) out_32
theorem ok_32 : ConOk Try.prog 53 c_32 := Con.shape_ok sem_32

/-! 54 -/
def C_33 : Cfg := { T := tab, hint := fun _ => { keepR := [0, 1, 4, 7], res := [4], base := 1 }, mode := modeOf [(55, .sub), (105, .sub)] }
noncomputable def O_33 : Oracle := Oracle.of [(55, c_1), (105, c_30)]
noncomputable def L_33 : Loops := Loops.of []
theorem lf_33 : LoopsFn Try.prog C_33 O_33 54 L_33 := LoopsFn.nil' (by kernel_rfl)
def sa_33 : List S2 := [.one (.ptr 0 0 0), .one (.dat I)]
def ba_33 : List SB := [.one tl20Rd]
def out_33 (r : Int × Dl20Rd) : AV × Store := out1 (.one (.dat I)) [.one tl20Rd] (r.1, r.2, ())
theorem w_33 (x : FAr sa_33 ba_33) : evF C_33 O_33 L_33 54 sa_33 ba_33 x =
 spec_l20RightsK x.1 x.2.1 (fun r => some (out_33 r)) := by kernel_rfl
theorem sem_33 : SemF 54 sa_33 ba_33 (fun x => spec_l20Rights x.1 x.2.1) out_33 :=
 sem_of folP okP tabP (Oracle.of_ok (Oracle.cons_ok ok_1 (Oracle.cons_ok ok_30 Oracle.nil_ok))) lf_33 fun x => (w_33 x).trans (spec_l20Rights_eq x.1 x.2.1 _)
noncomputable def c_33 : Con := Con.shape sa_33 ba_33 (fun x => spec_l20Rights x.1 x.2.1) out_33
theorem ok_33 : ConOk Try.prog 54 c_33 := Con.shape_ok sem_33

/-! 19 -/
def C_34 : Cfg := { T := tab, hint := fun _ => { mu := [2, 8, 12], keepR := [0, 2, 3, 4, 5, 6, 7, 8, 9, 10], res := [2, 3, 4, 5, 6], order := [(5, [(3, .read), (1, .pure), (2, .pure), (5, .pure), (9, .pure), (10, .pure), (0, .aside [1]), (4, .forced), (6, .forced), (7, .pure), (8, .pure), (11, .forced)] ++ tns .pure 12 4 ++ tns .forced 16 5)] }, mode := modeOf [(52, .sub), (53, .sub), (54, .sub), (55, .sub)] }
noncomputable def O_34 : Oracle := Oracle.of [(51, c_0), (52, c_31), (53, c_32), (54, c_33), (55, c_1)]
noncomputable def L_34 : Loops := Loops.of []
theorem lf_34 : LoopsFn Try.prog C_34 O_34 19 L_34 := LoopsFn.nil' (by kernel_rfl)
def sa_34 : List S2 := [.one (.dat (.sl (.int .u8)))]
def ba_34 : List SB := []
def out_34 (r : Int × Int × Int × Int × Int × Int × Int × Int × (List DEntry) × (List Int)) : AV × Store := outT [.agg [.dat I, .dat I, .dat I, .all 0, .all 1, .dat I], .one (.dat I), .one (.dat I), .one (.dat I), .one (.dat I)] [.data tEntry, .data I] (r.1, r.2.1, r.2.2.1, r.2.2.2.1, r.2.2.2.2.1, r.2.2.2.2.2.1, r.2.2.2.2.2.2.1, r.2.2.2.2.2.2.2.1, r.2.2.2.2.2.2.2.2.1, r.2.2.2.2.2.2.2.2.2, ())
theorem w_34 (x : FAr sa_34 ba_34) : evF C_34 O_34 L_34 19 sa_34 ba_34 x =
 spec_DrawSysMintK x.1 (fun r => some (out_34 r)) := by kernel_rfl
theorem sem_34 : SemF 19 sa_34 ba_34 (fun x => spec_DrawSysMint x.1) out_34 :=
 sem_of folP okP tabP (Oracle.of_ok (Oracle.cons_ok ok_0 (Oracle.cons_ok ok_31 (Oracle.cons_ok ok_32 (Oracle.cons_ok ok_33 (Oracle.cons_ok ok_1 Oracle.nil_ok)))))) lf_34 fun x => (w_34 x).trans (spec_DrawSysMint_eq x.1 _)
noncomputable def c_34 : Con := Con.shape sa_34 ba_34 (fun x => spec_DrawSysMint x.1) out_34
theorem ok_34 : ConOk Try.prog 19 c_34 := Con.shape_ok sem_34

/-! 73 -/
def C_35 : Cfg := { T := tab, hint := fun _ => { keepR := [0, 1, 2, 6], res := [6] }, mode := fun _ => .borrow }
noncomputable def O_35 : Oracle := Oracle.of []
noncomputable def L_35 : Loops := Loops.of []
theorem lf_35 : LoopsFn Try.prog C_35 O_35 73 L_35 := LoopsFn.nil' (by kernel_rfl)
def sa_35 : List S2 := [.one (.dat I), .one (.dat I), .one (.dat I)]
def ba_35 : List SB := []
def out_35 (r : Bool) : AV × Store := out1 (.one (.dat .bool)) [] (r, ())
theorem w_35 (x : FAr sa_35 ba_35) : evF C_35 O_35 L_35 73 sa_35 ba_35 x =
 impl_inK x.1 x.2.1 x.2.2.1 (fun r => some (out_35 r)) := by kernel_rfl
theorem sem_35 : SemF 73 sa_35 ba_35 (fun x => impl_in x.1 x.2.1 x.2.2.1) out_35 :=
 sem_of folP okP tabP (Oracle.of_ok Oracle.nil_ok) lf_35 fun x => (w_35 x).trans (impl_in_eq x.1 x.2.1 x.2.2.1 _)
noncomputable def c_35 : Con := Con.shape sa_35 ba_35 (fun x => impl_in x.1 x.2.1 x.2.2.1) out_35
theorem ok_35 : ConOk Try.prog 73 c_35 := Con.shape_ok sem_35

/-! 71 -/
def C_36 : Cfg := { T := tab, hint := fun _ => { keepR := [1, 2], res := [2], order := [(1, tns .forced 0 4 ++ [(4, .read), (5, .read)] ++ tns .forced 6 7 ++ [(13, .read), (14, .read)] ++ tns .forced 15 7 ++ [(22, .read), (23, .read)] ++ tns .forced 24 6)] }, mode := fun _ => .borrow }
noncomputable def O_36 : Oracle := Oracle.of [(73, c_35)]
noncomputable def L_36 : Loops := Loops.of []
theorem lf_36 : LoopsFn Try.prog C_36 O_36 71 L_36 := LoopsFn.nil' (by kernel_rfl)
def sa_36 : List S2 := [.one (.dat tPiece)]
def ba_36 : List SB := []
def out_36 (r : Bool) : AV × Store := out1 (.one (.dat .bool)) [] (r, ())
theorem w_36 (x : FAr sa_36 ba_36) : evF C_36 O_36 L_36 71 sa_36 ba_36 x =
 impl_PieceValidK x.1 (fun r => some (out_36 r)) := by kernel_rfl
theorem sem_36 : SemF 71 sa_36 ba_36 (fun x => impl_PieceValid x.1) out_36 :=
 sem_of folP okP tabP (Oracle.of_ok (Oracle.cons_ok ok_35 Oracle.nil_ok)) lf_36 fun x => (w_36 x).trans (impl_PieceValid_eq x.1 _)
noncomputable def c_36 : Con := Con.shape sa_36 ba_36 (fun x => impl_PieceValid x.1) out_36
theorem ok_36 : ConOk Try.prog 71 c_36 := Con.shape_ok sem_36

/-! 117 -/
def C_37 : Cfg := { T := tab, hint := fun _ => { keepR := [0, 2], res := [2] }, mode := fun _ => .borrow }
noncomputable def O_37 : Oracle := Oracle.of [(73, c_35)]
noncomputable def L_37 : Loops := Loops.of []
theorem lf_37 : LoopsFn Try.prog C_37 O_37 117 L_37 := LoopsFn.nil' (by kernel_rfl)
def sa_37 : List S2 := [.one (.dat I)]
def ba_37 : List SB := []
def out_37 (r : Bool) : AV × Store := out1 (.one (.dat .bool)) [] (r, ())
theorem w_37 (x : FAr sa_37 ba_37) : evF C_37 O_37 L_37 117 sa_37 ba_37 x =
 impl_isObjectK x.1 (fun r => some (out_37 r)) := by kernel_rfl
theorem sem_37 : SemF 117 sa_37 ba_37 (fun x => impl_isObject x.1) out_37 :=
 sem_of folP okP tabP (Oracle.of_ok (Oracle.cons_ok ok_35 Oracle.nil_ok)) lf_37 fun x => (w_37 x).trans (impl_isObject_eq x.1 _)
noncomputable def c_37 : Con := Con.shape sa_37 ba_37 (fun x => impl_isObject x.1) out_37
theorem ok_37 : ConOk Try.prog 117 c_37 := Con.shape_ok sem_37

/-! 112 -/
def C_38 : Cfg := { T := tab, hint := fun _ => { keepR := [0, 2], res := [2] }, mode := fun _ => .borrow }
noncomputable def O_38 : Oracle := Oracle.of [(73, c_35)]
noncomputable def L_38 : Loops := Loops.of []
theorem lf_38 : LoopsFn Try.prog C_38 O_38 112 L_38 := LoopsFn.nil' (by kernel_rfl)
def sa_38 : List S2 := [.one (.dat I)]
def ba_38 : List SB := []
def out_38 (r : Bool) : AV × Store := out1 (.one (.dat .bool)) [] (r, ())
theorem w_38 (x : FAr sa_38 ba_38) : evF C_38 O_38 L_38 112 sa_38 ba_38 x =
 impl_RightsValidK x.1 (fun r => some (out_38 r)) := by kernel_rfl
theorem sem_38 : SemF 112 sa_38 ba_38 (fun x => impl_RightsValid x.1) out_38 :=
 sem_of folP okP tabP (Oracle.of_ok (Oracle.cons_ok ok_35 Oracle.nil_ok)) lf_38 fun x => (w_38 x).trans (impl_RightsValid_eq x.1 _)
noncomputable def c_38 : Con := Con.shape sa_38 ba_38 (fun x => impl_RightsValid x.1) out_38
theorem ok_38 : ConOk Try.prog 112 c_38 := Con.shape_ok sem_38

/-! 118 -/
def C_39 : Cfg := { T := tab, hint := fun _ => { keepR := [0, 2], res := [2] }, mode := fun _ => .borrow }
noncomputable def O_39 : Oracle := Oracle.of []
noncomputable def L_39 : Loops := Loops.of []
theorem lf_39 : LoopsFn Try.prog C_39 O_39 118 L_39 := LoopsFn.nil' (by kernel_rfl)
def sa_39 : List S2 := [.one (.dat I)]
def ba_39 : List SB := []
def out_39 (r : Bool) : AV × Store := out1 (.one (.dat .bool)) [] (r, ())
theorem w_39 (x : FAr sa_39 ba_39) : evF C_39 O_39 L_39 118 sa_39 ba_39 x =
 impl_badgedK x.1 (fun r => some (out_39 r)) := by kernel_rfl
theorem sem_39 : SemF 118 sa_39 ba_39 (fun x => impl_badged x.1) out_39 :=
 sem_of folP okP tabP (Oracle.of_ok Oracle.nil_ok) lf_39 fun x => (w_39 x).trans (impl_badged_eq x.1 _)
noncomputable def c_39 : Con := Con.shape sa_39 ba_39 (fun x => impl_badged x.1) out_39
theorem ok_39 : ConOk Try.prog 118 c_39 := Con.shape_ok sem_39

/-! 77 -/
def C_40 : Cfg := { T := tab, hint := fun _ => { keepR := [1, 2, 5], res := [2] }, mode := fun _ => .borrow }
noncomputable def O_40 : Oracle := Oracle.of [(73, c_35), (112, c_38), (117, c_37), (118, c_39)]
noncomputable def L_40 : Loops := Loops.of []
theorem lf_40 : LoopsFn Try.prog C_40 O_40 77 L_40 := LoopsFn.nil' (by kernel_rfl)
def sa_40 : List S2 := [.one (.dat tCap)]
def ba_40 : List SB := []
def out_40 (r : Bool) : AV × Store := out1 (.one (.dat .bool)) [] (r, ())
theorem w_40 (x : FAr sa_40 ba_40) : evF C_40 O_40 L_40 77 sa_40 ba_40 x =
 impl_CapValidK x.1 (fun r => some (out_40 r)) := by kernel_rfl
theorem sem_40 : SemF 77 sa_40 ba_40 (fun x => impl_CapValid x.1) out_40 :=
 sem_of folP okP tabP (Oracle.of_ok (Oracle.cons_ok ok_35 (Oracle.cons_ok ok_38 (Oracle.cons_ok ok_37 (Oracle.cons_ok ok_39 Oracle.nil_ok))))) lf_40 fun x => (w_40 x).trans (impl_CapValid_eq x.1 _)
noncomputable def c_40 : Con := Con.shape sa_40 ba_40 (fun x => impl_CapValid x.1) out_40
theorem ok_40 : ConOk Try.prog 77 c_40 := Con.shape_ok sem_40

/-! 27 -/
def C_41 : Cfg := { T := tab, hint := fun _ => { keepR := [2, 3, 4], res := [4] }, mode := fun _ => .borrow }
noncomputable def O_41 : Oracle := Oracle.of [(77, c_40)]
noncomputable def L_41 : Loops := Loops.of []
theorem lf_41 : LoopsFn Try.prog C_41 O_41 27 L_41 := LoopsFn.nil' (by kernel_rfl)
def sa_41 : List S2 := [.one (.dat tCap), .one (.dat tCap)]
def ba_41 : List SB := []
def out_41 (r : Bool) : AV × Store := out1 (.one (.dat .bool)) [] (r, ())
theorem w_41 (x : FAr sa_41 ba_41) : evF C_41 O_41 L_41 27 sa_41 ba_41 x =
 impl_CapWithinK x.1 x.2.1 (fun r => some (out_41 r)) := by kernel_rfl
theorem sem_41 : SemF 27 sa_41 ba_41 (fun x => impl_CapWithin x.1 x.2.1) out_41 :=
 sem_of folP okP tabP (Oracle.of_ok (Oracle.cons_ok ok_40 Oracle.nil_ok)) lf_41 fun x => (w_41 x).trans (impl_CapWithin_eq x.1 x.2.1 _)
noncomputable def c_41 : Con := Con.shape sa_41 ba_41 (fun x => impl_CapWithin x.1 x.2.1) out_41
theorem ok_41 : ConOk Try.prog 27 c_41 := Con.shape_ok sem_41

/-! 70 -/
def C_42 : Cfg := { T := tab, hint := fun _ => { mu := [4], keepR := [0, 2, 3, 4, 5, 6, 7, 8, 29, 57], res := [2], order := [(6, tns .forced 0 9 ++ [(9, .read)] ++ tns .forced 10 6 ++ [(16, .read), (17, .read), (18, .read)] ++ tns .forced 19 9)], keepL := [(0, [0, 5, 6, 7])], keepX := [(0, [0]), (1, [0, 5, 6, 7])] }, mode := fun _ => .borrow }
noncomputable def O_42 : Oracle := Oracle.of [(27, c_41), (73, c_35), (77, c_40)]
def sh_42_l0 : List (Nat × S2) := [(0, .one (.dat (.sl tEntry))), (5, .one (.dat (.sl tEntry))), (6, .one (.dat I)), (7, .one (.dat I))]
def bs_42_l0 : List SB := []
def xs_42_l0 : List (Nat × S2) := [(0, .one (.dat (.sl tEntry)))]
def xb_42_l0 : List SB := []
def ys_42_l0 : List (Nat × S2) := [(2, .one (.dat .bool))]
def yb_42_l0 : List SB := []
noncomputable def lc_42_l0 : LCon := LCon.shape sh_42_l0 bs_42_l0 impl_DerivationValid_l0 (fun a => (.exit 0, encSt xs_42_l0 xb_42_l0 a)) (fun b => encSt ys_42_l0 yb_42_l0 b)
noncomputable def L_42 : Loops := Loops.of [(0, lc_42_l0)]
theorem r_42_l0 (x : FSt sh_42_l0 bs_42_l0) : rdF C_42 O_42 L_42 70 0 0 sh_42_l0 bs_42_l0 x =
 impl_DerivationValid_l0K x.1 x.2.1 x.2.2.1 x.2.2.2.1 (fun y => some (Ex.normal, encSt sh_42_l0 bs_42_l0 y)) (fun a => some (Ex.exit 0, encSt xs_42_l0 xb_42_l0 a)) (fun b => some (Ex.ret, encSt ys_42_l0 yb_42_l0 b)) := by kernel_rfl
theorem lo_42_l0 : loF C_42 O_42 L_42 70 0 0 lc_42_l0 :=
 LCon.shape_ok (fun a => by simp) fun x => (r_42_l0 x).trans (impl_DerivationValid_l0_eq x.1 x.2.1 x.2.2.1 x.2.2.2.1 _ _ _)
theorem lf_42 : LoopsFn Try.prog C_42 O_42 70 L_42 := LoopsFn.all (by kernel_rfl) (by decide) ⟨lo_42_l0, trivial⟩
def sa_42 : List S2 := [.one (.dat (.sl tEntry))]
def ba_42 : List SB := []
def out_42 (r : Bool) : AV × Store := out1 (.one (.dat .bool)) [] (r, ())
theorem w_42 (x : FAr sa_42 ba_42) : evF C_42 O_42 L_42 70 sa_42 ba_42 x =
 impl_DerivationValidK x.1 (fun r => some (out_42 r)) := by kernel_rfl
theorem sem_42 : SemF 70 sa_42 ba_42 (fun x => impl_DerivationValid x.1) out_42 :=
 sem_of folP okP tabP (Oracle.of_ok (Oracle.cons_ok ok_41 (Oracle.cons_ok ok_35 (Oracle.cons_ok ok_40 Oracle.nil_ok)))) lf_42 fun x => (w_42 x).trans (impl_DerivationValid_eq x.1 _)
noncomputable def c_42 : Con := Con.shape sa_42 ba_42 (fun x => impl_DerivationValid x.1) out_42
theorem ok_42 : ConOk Try.prog 70 c_42 := Con.shape_ok sem_42

/-! 115 -/
def C_43 : Cfg := { T := tab, hint := fun _ => { keepR := [0, 1, 4, 5, 7, 8, 9, 16], res := [4], keepL := [(0, [0, 1, 7, 8])], keepX := [(0, []), (1, [0, 1, 7, 8])] }, mode := fun _ => .borrow }
noncomputable def O_43 : Oracle := Oracle.of []
def sh_43_l0 : List (Nat × S2) := [(0, .one (.dat (.sl I))), (1, .one (.dat I)), (7, .one (.dat I)), (8, .one (.dat I))]
def bs_43_l0 : List SB := []
def xs_43_l0 : List (Nat × S2) := []
def xb_43_l0 : List SB := []
def ys_43_l0 : List (Nat × S2) := [(4, .one (.dat I))]
def yb_43_l0 : List SB := []
noncomputable def lc_43_l0 : LCon := LCon.shape sh_43_l0 bs_43_l0 slices_Index_int_l0 (fun a => (.exit 0, encSt xs_43_l0 xb_43_l0 a)) (fun b => encSt ys_43_l0 yb_43_l0 b)
noncomputable def L_43 : Loops := Loops.of [(0, lc_43_l0)]
theorem r_43_l0 (x : FSt sh_43_l0 bs_43_l0) : rdF C_43 O_43 L_43 115 0 0 sh_43_l0 bs_43_l0 x =
 slices_Index_int_l0K x.1 x.2.1 x.2.2.1 x.2.2.2.1 (fun y => some (Ex.normal, encSt sh_43_l0 bs_43_l0 y)) (fun a => some (Ex.exit 0, encSt xs_43_l0 xb_43_l0 a)) (fun b => some (Ex.ret, encSt ys_43_l0 yb_43_l0 b)) := by kernel_rfl
theorem lo_43_l0 : loF C_43 O_43 L_43 115 0 0 lc_43_l0 :=
 LCon.shape_ok (fun a => by simp) fun x => (r_43_l0 x).trans (slices_Index_int_l0_eq x.1 x.2.1 x.2.2.1 x.2.2.2.1 _ _ _)
theorem lf_43 : LoopsFn Try.prog C_43 O_43 115 L_43 := LoopsFn.all (by kernel_rfl) (by decide) ⟨lo_43_l0, trivial⟩
def sa_43 : List S2 := [.one (.dat (.sl I)), .one (.dat I)]
def ba_43 : List SB := []
def out_43 (r : Int) : AV × Store := out1 (.one (.dat I)) [] (r, ())
theorem w_43 (x : FAr sa_43 ba_43) : evF C_43 O_43 L_43 115 sa_43 ba_43 x =
 slices_Index_intK x.1 x.2.1 (fun r => some (out_43 r)) := by kernel_rfl
theorem sem_43 : SemF 115 sa_43 ba_43 (fun x => slices_Index_int x.1 x.2.1) out_43 :=
 sem_of folP okP tabP (Oracle.of_ok Oracle.nil_ok) lf_43 fun x => (w_43 x).trans (slices_Index_int_eq x.1 x.2.1 _)
noncomputable def c_43 : Con := Con.shape sa_43 ba_43 (fun x => slices_Index_int x.1 x.2.1) out_43
theorem ok_43 : ConOk Try.prog 115 c_43 := Con.shape_ok sem_43

/-! 74 -/
def C_44 : Cfg := { T := tab, hint := fun _ => { keepR := [0, 1, 4], res := [4] }, mode := fun _ => .borrow }
noncomputable def O_44 : Oracle := Oracle.of [(115, c_43)]
noncomputable def L_44 : Loops := Loops.of []
theorem lf_44 : LoopsFn Try.prog C_44 O_44 74 L_44 := LoopsFn.nil' (by kernel_rfl)
def sa_44 : List S2 := [.one (.dat (.sl I)), .one (.dat I)]
def ba_44 : List SB := []
def out_44 (r : Bool) : AV × Store := out1 (.one (.dat .bool)) [] (r, ())
theorem w_44 (x : FAr sa_44 ba_44) : evF C_44 O_44 L_44 74 sa_44 ba_44 x =
 slices_Contains_intK x.1 x.2.1 (fun r => some (out_44 r)) := by kernel_rfl
theorem sem_44 : SemF 74 sa_44 ba_44 (fun x => slices_Contains_int x.1 x.2.1) out_44 :=
 sem_of folP okP tabP (Oracle.of_ok (Oracle.cons_ok ok_43 Oracle.nil_ok)) lf_44 fun x => (w_44 x).trans (slices_Contains_int_eq x.1 x.2.1 _)
noncomputable def c_44 : Con := Con.shape sa_44 ba_44 (fun x => slices_Contains_int x.1 x.2.1) out_44
theorem ok_44 : ConOk Try.prog 74 c_44 := Con.shape_ok sem_44

/-! 72 -/
def C_45 : Cfg := { T := tab, hint := fun _ => { keepR := [0, 2, 3, 4, 5, 6, 7, 8, 25], res := [2], keepL := [(0, [0, 5, 6, 7])], keepX := [(0, [0]), (1, [0, 5, 6, 7])] }, mode := fun _ => .borrow }
noncomputable def O_45 : Oracle := Oracle.of [(73, c_35), (74, c_44)]
def sh_45_l0 : List (Nat × S2) := [(0, .one (.dat (.sl I))), (5, .one (.dat (.sl I))), (6, .one (.dat I)), (7, .one (.dat I))]
def bs_45_l0 : List SB := []
def xs_45_l0 : List (Nat × S2) := [(0, .one (.dat (.sl I)))]
def xb_45_l0 : List SB := []
def ys_45_l0 : List (Nat × S2) := [(2, .one (.dat .bool))]
def yb_45_l0 : List SB := []
noncomputable def lc_45_l0 : LCon := LCon.shape sh_45_l0 bs_45_l0 impl_PlacesValid_l0 (fun a => (.exit 0, encSt xs_45_l0 xb_45_l0 a)) (fun b => encSt ys_45_l0 yb_45_l0 b)
noncomputable def L_45 : Loops := Loops.of [(0, lc_45_l0)]
theorem r_45_l0 (x : FSt sh_45_l0 bs_45_l0) : rdF C_45 O_45 L_45 72 0 0 sh_45_l0 bs_45_l0 x =
 impl_PlacesValid_l0K x.1 x.2.1 x.2.2.1 x.2.2.2.1 (fun y => some (Ex.normal, encSt sh_45_l0 bs_45_l0 y)) (fun a => some (Ex.exit 0, encSt xs_45_l0 xb_45_l0 a)) (fun b => some (Ex.ret, encSt ys_45_l0 yb_45_l0 b)) := by kernel_rfl
theorem lo_45_l0 : loF C_45 O_45 L_45 72 0 0 lc_45_l0 :=
 LCon.shape_ok (fun a => by simp) fun x => (r_45_l0 x).trans (impl_PlacesValid_l0_eq x.1 x.2.1 x.2.2.1 x.2.2.2.1 _ _ _)
theorem lf_45 : LoopsFn Try.prog C_45 O_45 72 L_45 := LoopsFn.all (by kernel_rfl) (by decide) ⟨lo_45_l0, trivial⟩
def sa_45 : List S2 := [.one (.dat (.sl I))]
def ba_45 : List SB := []
def out_45 (r : Bool) : AV × Store := out1 (.one (.dat .bool)) [] (r, ())
theorem w_45 (x : FAr sa_45 ba_45) : evF C_45 O_45 L_45 72 sa_45 ba_45 x =
 impl_PlacesValidK x.1 (fun r => some (out_45 r)) := by kernel_rfl
theorem sem_45 : SemF 72 sa_45 ba_45 (fun x => impl_PlacesValid x.1) out_45 :=
 sem_of folP okP tabP (Oracle.of_ok (Oracle.cons_ok ok_35 (Oracle.cons_ok ok_44 Oracle.nil_ok))) lf_45 fun x => (w_45 x).trans (impl_PlacesValid_eq x.1 _)
noncomputable def c_45 : Con := Con.shape sa_45 ba_45 (fun x => impl_PlacesValid x.1) out_45
theorem ok_45 : ConOk Try.prog 72 c_45 := Con.shape_ok sem_45

/-! 76 -/
def C_46 : Cfg := { T := tab, hint := fun _ => { keepR := [0, 1, 3], res := [3] }, mode := fun _ => .borrow }
noncomputable def O_46 : Oracle := Oracle.of []
noncomputable def L_46 : Loops := Loops.of []
theorem lf_46 : LoopsFn Try.prog C_46 O_46 76 L_46 := LoopsFn.nil' (by kernel_rfl)
def sa_46 : List S2 := [.one (.dat I), .one (.cdat tKernel 0)]
def ba_46 : List SB := []
def out_46 (r : Bool) : AV × Store := out1 (.one (.dat .bool)) [] (r, ())
theorem w_46 (x : FAr sa_46 ba_46) : evF C_46 O_46 L_46 76 sa_46 ba_46 x =
 impl_KernelValid_c1K x.1 x.2.1 (fun r => some (out_46 r)) := by kernel_rfl
theorem sem_46 : SemF 76 sa_46 ba_46 (fun x => impl_KernelValid_c1 x.1 x.2.1) out_46 :=
 sem_of folP okP tabP (Oracle.of_ok Oracle.nil_ok) lf_46 fun x => (w_46 x).trans (impl_KernelValid_c1_eq x.1 x.2.1 _)
noncomputable def c_46 : Con := Con.shape sa_46 ba_46 (fun x => impl_KernelValid_c1 x.1 x.2.1) out_46
theorem ok_46 : ConOk Try.prog 76 c_46 := Con.shape_ok sem_46

/-! 116 -/
def C_47 : Cfg := { T := tab, hint := fun _ => { keepR := [0, 1, 4, 5, 7, 8, 9, 16], res := [4], keepL := [(0, [0, 1, 7, 8])], keepX := [(0, []), (1, [0, 1, 7, 8])] }, mode := fun _ => .borrow }
noncomputable def O_47 : Oracle := Oracle.of [(76, c_46)]
def sh_47_l0 : List (Nat × S2) := [(0, .one (.dat (.sl I))), (1, .fn 76 [.cdat tKernel 0]), (7, .one (.dat I)), (8, .one (.dat I))]
def bs_47_l0 : List SB := []
def xs_47_l0 : List (Nat × S2) := []
def xb_47_l0 : List SB := []
def ys_47_l0 : List (Nat × S2) := [(4, .one (.dat I))]
def yb_47_l0 : List SB := []
noncomputable def lc_47_l0 : LCon := LCon.shape sh_47_l0 bs_47_l0 slices_IndexFunc_int_l0 (fun a => (.exit 0, encSt xs_47_l0 xb_47_l0 a)) (fun b => encSt ys_47_l0 yb_47_l0 b)
noncomputable def L_47 : Loops := Loops.of [(0, lc_47_l0)]
theorem r_47_l0 (x : FSt sh_47_l0 bs_47_l0) : rdF C_47 O_47 L_47 116 0 0 sh_47_l0 bs_47_l0 x =
 slices_IndexFunc_int_l0K x.1 x.2.1 x.2.2.1 x.2.2.2.1 (fun y => some (Ex.normal, encSt sh_47_l0 bs_47_l0 y)) (fun a => some (Ex.exit 0, encSt xs_47_l0 xb_47_l0 a)) (fun b => some (Ex.ret, encSt ys_47_l0 yb_47_l0 b)) := by kernel_rfl
theorem lo_47_l0 : loF C_47 O_47 L_47 116 0 0 lc_47_l0 :=
 LCon.shape_ok (fun a => by simp) fun x => (r_47_l0 x).trans (slices_IndexFunc_int_l0_eq x.1 x.2.1 x.2.2.1 x.2.2.2.1 _ _ _)
theorem lf_47 : LoopsFn Try.prog C_47 O_47 116 L_47 := LoopsFn.all (by kernel_rfl) (by decide) ⟨lo_47_l0, trivial⟩
def sa_47 : List S2 := [.one (.dat (.sl I)), .fn 76 [.cdat tKernel 0]]
def ba_47 : List SB := []
def out_47 (r : Int) : AV × Store := out1 (.one (.dat I)) [] (r, ())
theorem w_47 (x : FAr sa_47 ba_47) : evF C_47 O_47 L_47 116 sa_47 ba_47 x =
 slices_IndexFunc_intK x.1 x.2.1 (fun r => some (out_47 r)) := by kernel_rfl
theorem sem_47 : SemF 116 sa_47 ba_47 (fun x => slices_IndexFunc_int x.1 x.2.1) out_47 :=
 sem_of folP okP tabP (Oracle.of_ok (Oracle.cons_ok ok_46 Oracle.nil_ok)) lf_47 fun x => (w_47 x).trans (slices_IndexFunc_int_eq x.1 x.2.1 _)
noncomputable def c_47 : Con := Con.shape sa_47 ba_47 (fun x => slices_IndexFunc_int x.1 x.2.1) out_47
theorem ok_47 : ConOk Try.prog 116 c_47 := Con.shape_ok sem_47

/-! 75 -/
def C_48 : Cfg := { T := tab, hint := fun _ => { keepR := [0, 1, 4], res := [4] }, mode := fun _ => .borrow }
noncomputable def O_48 : Oracle := Oracle.of [(116, c_47)]
noncomputable def L_48 : Loops := Loops.of []
theorem lf_48 : LoopsFn Try.prog C_48 O_48 75 L_48 := LoopsFn.nil' (by kernel_rfl)
def sa_48 : List S2 := [.one (.dat (.sl I)), .fn 76 [.cdat tKernel 0]]
def ba_48 : List SB := []
def out_48 (r : Bool) : AV × Store := out1 (.one (.dat .bool)) [] (r, ())
theorem w_48 (x : FAr sa_48 ba_48) : evF C_48 O_48 L_48 75 sa_48 ba_48 x =
 slices_ContainsFunc_intK x.1 x.2.1 (fun r => some (out_48 r)) := by kernel_rfl
theorem sem_48 : SemF 75 sa_48 ba_48 (fun x => slices_ContainsFunc_int x.1 x.2.1) out_48 :=
 sem_of folP okP tabP (Oracle.of_ok (Oracle.cons_ok ok_47 Oracle.nil_ok)) lf_48 fun x => (w_48 x).trans (slices_ContainsFunc_int_eq x.1 x.2.1 _)
noncomputable def c_48 : Con := Con.shape sa_48 ba_48 (fun x => slices_ContainsFunc_int x.1 x.2.1) out_48
theorem ok_48 : ConOk Try.prog 75 c_48 := Con.shape_ok sem_48

/-! 26 -/
def C_49 : Cfg := { T := tab, hint := fun _ => { mu := [4], keepR := [1, 2, 3, 4, 26, 28, 29, 30, 31, 49], res := [2], order := [(6, tns .read 0 4 ++ tns .forced 4 4 ++ [(8, .read), (9, .read), (10, .read)] ++ tns .forced 11 4)], keepL := [(0, [1, 28, 29, 30])], keepX := [(0, [1]), (1, [1, 28, 29, 30])] }, mode := fun _ => .borrow }
noncomputable def O_49 : Oracle := Oracle.of [(70, c_42), (71, c_36), (72, c_45), (73, c_35), (74, c_44), (75, c_48)]
def sh_49_l0 : List (Nat × S2) := [(1, .one (.cdat tKernel 0)), (28, .one (.dat (.sl tEntry))), (29, .one (.dat I)), (30, .one (.dat I))]
def bs_49_l0 : List SB := []
def xs_49_l0 : List (Nat × S2) := [(1, .one (.cdat tKernel 0))]
def xb_49_l0 : List SB := []
def ys_49_l0 : List (Nat × S2) := [(2, .one (.dat .bool))]
def yb_49_l0 : List SB := []
noncomputable def lc_49_l0 : LCon := LCon.shape sh_49_l0 bs_49_l0 impl_KernelValid_l0 (fun a => (.exit 0, encSt xs_49_l0 xb_49_l0 a)) (fun b => encSt ys_49_l0 yb_49_l0 b)
noncomputable def L_49 : Loops := Loops.of [(0, lc_49_l0)]
theorem r_49_l0 (x : FSt sh_49_l0 bs_49_l0) : rdF C_49 O_49 L_49 26 0 0 sh_49_l0 bs_49_l0 x =
 impl_KernelValid_l0K x.1 x.2.1 x.2.2.1 x.2.2.2.1 (fun y => some (Ex.normal, encSt sh_49_l0 bs_49_l0 y)) (fun a => some (Ex.exit 0, encSt xs_49_l0 xb_49_l0 a)) (fun b => some (Ex.ret, encSt ys_49_l0 yb_49_l0 b)) := by kernel_rfl
theorem lo_49_l0 : loF C_49 O_49 L_49 26 0 0 lc_49_l0 :=
 LCon.shape_ok (fun a => by simp) fun x => (r_49_l0 x).trans (impl_KernelValid_l0_eq x.1 x.2.1 x.2.2.1 x.2.2.2.1 _ _ _)
theorem lf_49 : LoopsFn Try.prog C_49 O_49 26 L_49 := LoopsFn.all (by kernel_rfl) (by decide) ⟨lo_49_l0, trivial⟩
def sa_49 : List S2 := [.one (.dat tKernel)]
def ba_49 : List SB := []
def out_49 (r : Bool) : AV × Store := out1 (.one (.dat .bool)) [] (r, ())
theorem w_49 (x : FAr sa_49 ba_49) : evF C_49 O_49 L_49 26 sa_49 ba_49 x =
 impl_KernelValidK x.1 (fun r => some (out_49 r)) := by kernel_rfl
theorem sem_49 : SemF 26 sa_49 ba_49 (fun x => impl_KernelValid x.1) out_49 :=
 sem_of folP okP tabP (Oracle.of_ok (Oracle.cons_ok ok_42 (Oracle.cons_ok ok_36 (Oracle.cons_ok ok_45 (Oracle.cons_ok ok_35 (Oracle.cons_ok ok_44 (Oracle.cons_ok ok_48 Oracle.nil_ok))))))) lf_49 fun x => (w_49 x).trans (impl_KernelValid_eq x.1 _)
noncomputable def c_49 : Con := Con.shape sa_49 ba_49 (fun x => impl_KernelValid x.1) out_49
theorem ok_49 : ConOk Try.prog 26 c_49 := Con.shape_ok sem_49

/-! 121 -/
def C_50 : Cfg := { T := tab, hint := fun _ => { mu := [2, 7], keepR := [0, 2, 4], res := [2] }, mode := fun _ => .borrow }
noncomputable def O_50 : Oracle := Oracle.of []
noncomputable def L_50 : Loops := Loops.of []
theorem lf_50 : LoopsFn Try.prog C_50 O_50 121 L_50 := LoopsFn.nil' (by kernel_rfl)
def sa_50 : List S2 := [.one (.dat (.sl tEntry))]
def ba_50 : List SB := []
def out_50 (r : (List DEntry)) : AV × Store := out1 (.one (.all 0)) [.data tEntry] (r, ())
theorem w_50 (x : FAr sa_50 ba_50) : evF C_50 O_50 L_50 121 sa_50 ba_50 x =
 slices_Clone_EntryR x.1 (fun r => some (out_50 r)) := by kernel_rfl
theorem sem_50 : SemF 121 sa_50 ba_50 (fun x => slices_Clone_Entry x.1) out_50 :=
 sem_of folP okP tabP (Oracle.of_ok Oracle.nil_ok) lf_50 fun x => (w_50 x).trans ((slices_Clone_Entry_raw x.1 _).trans (slices_Clone_Entry_eq x.1 _))
noncomputable def c_50 : Con := Con.shape sa_50 ba_50 (fun x => slices_Clone_Entry x.1) out_50
theorem ok_50 : ConOk Try.prog 121 c_50 := Con.shape_ok sem_50

/-! 120 -/
def C_51 : Cfg := { T := tab, hint := fun _ => { mu := [8], keepR := [0, 2], res := [2], base := 1 }, mode := fun _ => .borrow }
noncomputable def O_51 : Oracle := Oracle.of []
noncomputable def L_51 : Loops := Loops.of []
theorem lf_51 : LoopsFn Try.prog C_51 O_51 120 L_51 := LoopsFn.nil' (by kernel_rfl)
def sa_51 : List S2 := [.one (.all 0)]
def ba_51 : List SB := [.data tEntry]
def out_51 (r : (List DEntry)) : AV × Store := out1 (.one (.all 0)) [.data tEntry] (r, ())
theorem w_51 (x : FAr sa_51 ba_51) : evF C_51 O_51 L_51 120 sa_51 ba_51 x =
 slices_Clip_EntryK x.1 (fun r => some (out_51 r)) := by kernel_rfl
theorem sem_51 : SemF 120 sa_51 ba_51 (fun x => slices_Clip_Entry x.1) out_51 :=
 sem_of folP okP tabP (Oracle.of_ok Oracle.nil_ok) lf_51 fun x => (w_51 x).trans (slices_Clip_Entry_eq x.1 _)
noncomputable def c_51 : Con := Con.shape sa_51 ba_51 (fun x => slices_Clip_Entry x.1) out_51
theorem ok_51 : ConOk Try.prog 120 c_51 := Con.shape_ok sem_51

/-! 80 -/
def C_52 : Cfg := { T := tab, hint := fun _ => { mu := [4], keepR := [0, 2], res := [2] }, mode := modeOf [(120, .sub)] }
noncomputable def O_52 : Oracle := Oracle.of [(120, c_51), (121, c_50)]
noncomputable def L_52 : Loops := Loops.of []
theorem lf_52 : LoopsFn Try.prog C_52 O_52 80 L_52 := LoopsFn.nil' (by kernel_rfl)
def sa_52 : List S2 := [.one (.dat (.sl tEntry))]
def ba_52 : List SB := []
def out_52 (r : (List DEntry)) : AV × Store := out1 (.one (.all 0)) [.data tEntry] (r, ())
theorem w_52 (x : FAr sa_52 ba_52) : evF C_52 O_52 L_52 80 sa_52 ba_52 x =
 impl_clone_EntryK x.1 (fun r => some (out_52 r)) := by kernel_rfl
theorem sem_52 : SemF 80 sa_52 ba_52 (fun x => impl_clone_Entry x.1) out_52 :=
 sem_of folP okP tabP (Oracle.of_ok (Oracle.cons_ok ok_51 (Oracle.cons_ok ok_50 Oracle.nil_ok))) lf_52 fun x => (w_52 x).trans (impl_clone_Entry_eq x.1 _)
noncomputable def c_52 : Con := Con.shape sa_52 ba_52 (fun x => impl_clone_Entry x.1) out_52
theorem ok_52 : ConOk Try.prog 80 c_52 := Con.shape_ok sem_52

/-! 133 -/
def C_53 : Cfg := { T := tab, hint := fun _ => { mu := [2, 7], keepR := [0, 2, 4], res := [2] }, mode := fun _ => .borrow }
noncomputable def O_53 : Oracle := Oracle.of []
noncomputable def L_53 : Loops := Loops.of []
theorem lf_53 : LoopsFn Try.prog C_53 O_53 133 L_53 := LoopsFn.nil' (by kernel_rfl)
def sa_53 : List S2 := [.one (.dat (.sl I))]
def ba_53 : List SB := []
def out_53 (r : (List Int)) : AV × Store := out1 (.one (.all 0)) [.data I] (r, ())
theorem w_53 (x : FAr sa_53 ba_53) : evF C_53 O_53 L_53 133 sa_53 ba_53 x =
 slices_Clone_intR x.1 (fun r => some (out_53 r)) := by kernel_rfl
theorem sem_53 : SemF 133 sa_53 ba_53 (fun x => slices_Clone_int x.1) out_53 :=
 sem_of folP okP tabP (Oracle.of_ok Oracle.nil_ok) lf_53 fun x => (w_53 x).trans ((slices_Clone_int_raw x.1 _).trans (slices_Clone_int_eq x.1 _))
noncomputable def c_53 : Con := Con.shape sa_53 ba_53 (fun x => slices_Clone_int x.1) out_53
theorem ok_53 : ConOk Try.prog 133 c_53 := Con.shape_ok sem_53

/-! 132 -/
def C_54 : Cfg := { T := tab, hint := fun _ => { mu := [8], keepR := [0, 2], res := [2], base := 1 }, mode := fun _ => .borrow }
noncomputable def O_54 : Oracle := Oracle.of []
noncomputable def L_54 : Loops := Loops.of []
theorem lf_54 : LoopsFn Try.prog C_54 O_54 132 L_54 := LoopsFn.nil' (by kernel_rfl)
def sa_54 : List S2 := [.one (.all 0)]
def ba_54 : List SB := [.data I]
def out_54 (r : (List Int)) : AV × Store := out1 (.one (.all 0)) [.data I] (r, ())
theorem w_54 (x : FAr sa_54 ba_54) : evF C_54 O_54 L_54 132 sa_54 ba_54 x =
 slices_Clip_intK x.1 (fun r => some (out_54 r)) := by kernel_rfl
theorem sem_54 : SemF 132 sa_54 ba_54 (fun x => slices_Clip_int x.1) out_54 :=
 sem_of folP okP tabP (Oracle.of_ok Oracle.nil_ok) lf_54 fun x => (w_54 x).trans (slices_Clip_int_eq x.1 _)
noncomputable def c_54 : Con := Con.shape sa_54 ba_54 (fun x => slices_Clip_int x.1) out_54
theorem ok_54 : ConOk Try.prog 132 c_54 := Con.shape_ok sem_54

/-! 106 -/
def C_55 : Cfg := { T := tab, hint := fun _ => { mu := [4], keepR := [0, 2], res := [2] }, mode := modeOf [(132, .sub)] }
noncomputable def O_55 : Oracle := Oracle.of [(132, c_54), (133, c_53)]
noncomputable def L_55 : Loops := Loops.of []
theorem lf_55 : LoopsFn Try.prog C_55 O_55 106 L_55 := LoopsFn.nil' (by kernel_rfl)
def sa_55 : List S2 := [.one (.dat (.sl I))]
def ba_55 : List SB := []
def out_55 (r : (List Int)) : AV × Store := out1 (.one (.all 0)) [.data I] (r, ())
theorem w_55 (x : FAr sa_55 ba_55) : evF C_55 O_55 L_55 106 sa_55 ba_55 x =
 impl_clone_intK x.1 (fun r => some (out_55 r)) := by kernel_rfl
theorem sem_55 : SemF 106 sa_55 ba_55 (fun x => impl_clone_int x.1) out_55 :=
 sem_of folP okP tabP (Oracle.of_ok (Oracle.cons_ok ok_54 (Oracle.cons_ok ok_53 Oracle.nil_ok))) lf_55 fun x => (w_55 x).trans (impl_clone_int_eq x.1 _)
noncomputable def c_55 : Con := Con.shape sa_55 ba_55 (fun x => impl_clone_int x.1) out_55
theorem ok_55 : ConOk Try.prog 106 c_55 := Con.shape_ok sem_55

/-! 56 -/
def C_56 : Cfg := { T := tab, hint := fun _ => { mu := [1, 2, 5, 8], keepR := [1, 2], res := [2], order := [(1, [(0, .read), (1, .read), (3, .read), (4, .read), (2, .forced), (6, .read), (5, .forced), (7, .forced), (8, .forced), (9, .forced)])] }, mode := fun _ => .borrow }
noncomputable def O_56 : Oracle := Oracle.of [(80, c_52), (106, c_55)]
noncomputable def L_56 : Loops := Loops.of []
theorem lf_56 : LoopsFn Try.prog C_56 O_56 56 L_56 := LoopsFn.nil' (by kernel_rfl)
def sa_56 : List S2 := [.one (.dat tKernel)]
def ba_56 : List SB := []
def out_56 (r : Int × Int × Int × Int × (List DEntry) × (List Int)) : AV × Store := out1 (.agg [.dat I, .dat I, .dat I, .all 0, .all 1, .dat I]) [.data tEntry, .data I] (r.1, r.2.1, r.2.2.1, r.2.2.2.1, r.2.2.2.2.1, r.2.2.2.2.2, ())
theorem w_56 (x : FAr sa_56 ba_56) : evF C_56 O_56 L_56 56 sa_56 ba_56 x =
 impl_Kernel_copyOfK x.1 (fun r => some (out_56 r)) := by kernel_rfl
theorem sem_56 : SemF 56 sa_56 ba_56 (fun x => impl_Kernel_copyOf x.1) out_56 :=
 sem_of folP okP tabP (Oracle.of_ok (Oracle.cons_ok ok_52 (Oracle.cons_ok ok_55 Oracle.nil_ok))) lf_56 fun x => (w_56 x).trans (impl_Kernel_copyOf_eq x.1 _)
noncomputable def c_56 : Con := Con.shape sa_56 ba_56 (fun x => impl_Kernel_copyOf x.1) out_56
theorem ok_56 : ConOk Try.prog 56 c_56 := Con.shape_ok sem_56

/-! 57 -/
def C_57 : Cfg := { T := tab, hint := fun _ => { keepR := [1, 2, 4], res := [4] }, mode := fun _ => .borrow }
noncomputable def O_57 : Oracle := Oracle.of [(73, c_35)]
noncomputable def L_57 : Loops := Loops.of []
theorem lf_57 : LoopsFn Try.prog C_57 O_57 57 L_57 := LoopsFn.nil' (by kernel_rfl)
def sa_57 : List S2 := [.one (.dat tKernel), .one (.dat I)]
def ba_57 : List SB := []
def out_57 (r : Bool) : AV × Store := out1 (.one (.dat .bool)) [] (r, ())
theorem w_57 (x : FAr sa_57 ba_57) : evF C_57 O_57 L_57 57 sa_57 ba_57 x =
 impl_Kernel_hasK x.1 x.2.1 (fun r => some (out_57 r)) := by kernel_rfl
theorem sem_57 : SemF 57 sa_57 ba_57 (fun x => impl_Kernel_has x.1 x.2.1) out_57 :=
 sem_of folP okP tabP (Oracle.of_ok (Oracle.cons_ok ok_35 Oracle.nil_ok)) lf_57 fun x => (w_57 x).trans (impl_Kernel_has_eq x.1 x.2.1 _)
noncomputable def c_57 : Con := Con.shape sa_57 ba_57 (fun x => impl_Kernel_has x.1 x.2.1) out_57
theorem ok_57 : ConOk Try.prog 57 c_57 := Con.shape_ok sem_57

/-! 58 -/
def C_58 : Cfg := { T := tab, hint := fun _ => { keepR := [1, 2, 4], res := [4] }, mode := fun _ => .borrow }
noncomputable def O_58 : Oracle := Oracle.of [(73, c_35)]
noncomputable def L_58 : Loops := Loops.of []
theorem lf_58 : LoopsFn Try.prog C_58 O_58 58 L_58 := LoopsFn.nil' (by kernel_rfl)
def sa_58 : List S2 := [.one (.dat tKernel), .one (.dat I)]
def ba_58 : List SB := []
def out_58 (r : Bool) : AV × Store := out1 (.one (.dat .bool)) [] (r, ())
theorem w_58 (x : FAr sa_58 ba_58) : evF C_58 O_58 L_58 58 sa_58 ba_58 x =
 impl_Kernel_emptyK x.1 x.2.1 (fun r => some (out_58 r)) := by kernel_rfl
theorem sem_58 : SemF 58 sa_58 ba_58 (fun x => impl_Kernel_empty x.1 x.2.1) out_58 :=
 sem_of folP okP tabP (Oracle.of_ok (Oracle.cons_ok ok_35 Oracle.nil_ok)) lf_58 fun x => (w_58 x).trans (impl_Kernel_empty_eq x.1 x.2.1 _)
noncomputable def c_58 : Con := Con.shape sa_58 ba_58 (fun x => impl_Kernel_empty x.1 x.2.1) out_58
theorem ok_58 : ConOk Try.prog 58 c_58 := Con.shape_ok sem_58

/-! 103 -/
def C_59 : Cfg := { T := tab, hint := fun _ => { keepR := [0, 1, 4], res := [4] }, mode := fun _ => .borrow }
noncomputable def O_59 : Oracle := Oracle.of [(70, c_42), (73, c_35)]
noncomputable def L_59 : Loops := Loops.of []
theorem lf_59 : LoopsFn Try.prog C_59 O_59 103 L_59 := LoopsFn.nil' (by kernel_rfl)
def sa_59 : List S2 := [.one (.dat (.sl tEntry)), .one (.dat I)]
def ba_59 : List SB := []
def out_59 (r : Bool) : AV × Store := out1 (.one (.dat .bool)) [] (r, ())
theorem w_59 (x : FAr sa_59 ba_59) : evF C_59 O_59 L_59 103 sa_59 ba_59 x =
 impl_aliveK x.1 x.2.1 (fun r => some (out_59 r)) := by kernel_rfl
theorem sem_59 : SemF 103 sa_59 ba_59 (fun x => impl_alive x.1 x.2.1) out_59 :=
 sem_of folP okP tabP (Oracle.of_ok (Oracle.cons_ok ok_42 (Oracle.cons_ok ok_35 Oracle.nil_ok))) lf_59 fun x => (w_59 x).trans (impl_alive_eq x.1 x.2.1 _)
noncomputable def c_59 : Con := Con.shape sa_59 ba_59 (fun x => impl_alive x.1 x.2.1) out_59
theorem ok_59 : ConOk Try.prog 103 c_59 := Con.shape_ok sem_59

/-! 107 -/
def C_60 : Cfg := { T := tab, hint := fun _ => { mu := [3, 6], keepR := [1, 2, 3, 6, 7, 50, 58], res := [6, 7] }, mode := fun _ => .borrow }
noncomputable def O_60 : Oracle := Oracle.of [(73, c_35), (77, c_40), (112, c_38), (118, c_39)]
noncomputable def L_60 : Loops := Loops.of []
theorem lf_60 : LoopsFn Try.prog C_60 O_60 107 L_60 := LoopsFn.nil' (by kernel_rfl)
def sa_60 : List S2 := [.one (.dat tCap), .one (.dat I), .one (.dat I)]
def ba_60 : List SB := []
def out_60 (r : DCap × Bool) : AV × Store := outT [.one (.dat tCap), .one (.dat .bool)] [] (r.1, r.2, ())
theorem w_60 (x : FAr sa_60 ba_60) : evF C_60 O_60 L_60 107 sa_60 ba_60 x =
 impl_MintCapK x.1 x.2.1 x.2.2.1 (fun r => some (out_60 r)) := by kernel_rfl
theorem sem_60 : SemF 107 sa_60 ba_60 (fun x => impl_MintCap x.1 x.2.1 x.2.2.1) out_60 :=
 sem_of folP okP tabP (Oracle.of_ok (Oracle.cons_ok ok_35 (Oracle.cons_ok ok_40 (Oracle.cons_ok ok_38 (Oracle.cons_ok ok_39 Oracle.nil_ok))))) lf_60 fun x => (w_60 x).trans (impl_MintCap_eq x.1 x.2.1 x.2.2.1 _)
noncomputable def c_60 : Con := Con.shape sa_60 ba_60 (fun x => impl_MintCap x.1 x.2.1 x.2.2.1) out_60
theorem ok_60 : ConOk Try.prog 107 c_60 := Con.shape_ok sem_60

/-! 59 -/
def C_61 : Cfg := { T := tab, hint := fun _ => { mu := [8, 11, 36, 38, 44], keepR := [0, 1, 2, 3, 8, 9, 10, 11, 12, 16, 34], res := [8, 9, 10], order := [(6, [(0, .read)] ++ tns .read 2 4 ++ [(8, .pure), (9, .pure), (1, .forced), (6, .forced), (7, .forced), (10, .forced), (11, .forced), (12, .forced)])] }, mode := fun _ => .borrow }
noncomputable def O_61 : Oracle := Oracle.of [(80, c_52), (103, c_59), (107, c_60)]
noncomputable def L_61 : Loops := Loops.of []
theorem lf_61 : LoopsFn Try.prog C_61 O_61 59 L_61 := LoopsFn.nil' (by kernel_rfl)
def sa_61 : List S2 := [.one (.dat (.sl tEntry)), .one (.dat I), .one (.dat I), .one (.dat I)]
def ba_61 : List SB := []
def out_61 (r : Int × Bool × (List DEntry)) : AV × Store := outT [.one (.all 0), .one (.dat I), .one (.dat .bool)] [.data tEntry] (r.1, r.2.1, r.2.2, ())
theorem w_61 (x : FAr sa_61 ba_61) : evF C_61 O_61 L_61 59 sa_61 ba_61 x =
 impl_DeriveCapK x.1 x.2.1 x.2.2.1 x.2.2.2.1 (fun r => some (out_61 r)) := by kernel_rfl
theorem sem_61 : SemF 59 sa_61 ba_61 (fun x => impl_DeriveCap x.1 x.2.1 x.2.2.1 x.2.2.2.1) out_61 :=
 sem_of folP okP tabP (Oracle.of_ok (Oracle.cons_ok ok_52 (Oracle.cons_ok ok_59 (Oracle.cons_ok ok_60 Oracle.nil_ok)))) lf_61 fun x => (w_61 x).trans (impl_DeriveCap_eq x.1 x.2.1 x.2.2.1 x.2.2.2.1 _)
noncomputable def c_61 : Con := Con.shape sa_61 ba_61 (fun x => impl_DeriveCap x.1 x.2.1 x.2.2.1 x.2.2.2.1) out_61
theorem ok_61 : ConOk Try.prog 59 c_61 := Con.shape_ok sem_61

/-! 20 -/
def C_62 : Cfg := { T := tab, hint := fun _ => { mu := [10, 12, 21, 50], keepR := [1, 2, 3, 4, 5, 10, 11, 12, 13, 14, 15, 18, 22, 34, 55], res := [10, 11], order := [(8, tns .read 0 8 ++ [(8, .forced), (9, .forced), (10, .forced), (11, .read), (12, .read), (13, .read), (14, .forced), (15, .forced), (16, .forced)])], keepX := [(0, [1, 2, 3, 4, 5, 10, 12])], fillR := true }, mode := fun _ => .borrow }
noncomputable def O_62 : Oracle := Oracle.of [(26, c_49), (56, c_56), (57, c_57), (58, c_58), (59, c_61)]
noncomputable def L_62 : Loops := Loops.of []
theorem lf_62 : LoopsFn Try.prog C_62 O_62 20 L_62 := LoopsFn.nil' (by kernel_rfl)
def sa_62 : List S2 := [.one (.dat tKernel), .one (.dat I), .one (.dat I), .one (.dat I), .one (.dat I)]
def ba_62 : List SB := []
def out_62 (r : Int × Int × Int × Int × Int × (List DEntry) × (List Int)) : AV × Store := outT [.agg [.dat I, .dat I, .dat I, .all 0, .all 1, .dat I], .one (.dat I)] [.data tEntry, .data I] (r.1, r.2.1, r.2.2.1, r.2.2.2.1, r.2.2.2.2.1, r.2.2.2.2.2.1, r.2.2.2.2.2.2, ())
theorem w_62 (x : FAr sa_62 ba_62) : evF C_62 O_62 L_62 20 sa_62 ba_62 x =
 impl_SysMintK x.1 x.2.1 x.2.2.1 x.2.2.2.1 x.2.2.2.2.1 (fun r => some (out_62 r)) := by kernel_rfl
theorem sem_62 : SemF 20 sa_62 ba_62 (fun x => impl_SysMint x.1 x.2.1 x.2.2.1 x.2.2.2.1 x.2.2.2.2.1) out_62 :=
 sem_of folP okP tabP (Oracle.of_ok (Oracle.cons_ok ok_49 (Oracle.cons_ok ok_56 (Oracle.cons_ok ok_57 (Oracle.cons_ok ok_58 (Oracle.cons_ok ok_61 Oracle.nil_ok)))))) lf_62 fun x => (w_62 x).trans (impl_SysMint_eq x.1 x.2.1 x.2.2.1 x.2.2.2.1 x.2.2.2.2.1 _)
noncomputable def c_62 : Con := Con.shape sa_62 ba_62 (fun x => impl_SysMint x.1 x.2.1 x.2.2.1 x.2.2.2.1 x.2.2.2.2.1) out_62
theorem ok_62 : ConOk Try.prog 20 c_62 := Con.shape_ok sem_62

/-! 31 -/
def C_63 : Cfg := { T := tab, hint := fun _ => { keepR := [0, 1, 4, 5, 10, 14, 25], res := [4], order := [(6, tns .read 0 5 ++ tns .forced 5 4)], keepL := [(0, [0, 1, 5])], keepX := [(0, []), (1, [0, 1, 5])] }, mode := fun _ => .borrow }
noncomputable def O_63 : Oracle := Oracle.of []
def sh_63_l0 : List (Nat × S2) := [(0, .one (.dat (.sl tEntry))), (1, .one (.dat (.sl tEntry))), (5, .one (.dat I))]
def bs_63_l0 : List SB := []
def xs_63_l0 : List (Nat × S2) := []
def xb_63_l0 : List SB := []
def ys_63_l0 : List (Nat × S2) := [(4, .one (.dat .bool))]
def yb_63_l0 : List SB := []
noncomputable def lc_63_l0 : LCon := LCon.shape sh_63_l0 bs_63_l0 laws_sameTree_l0 (fun a => (.exit 0, encSt xs_63_l0 xb_63_l0 a)) (fun b => encSt ys_63_l0 yb_63_l0 b)
noncomputable def L_63 : Loops := Loops.of [(0, lc_63_l0)]
theorem r_63_l0 (x : FSt sh_63_l0 bs_63_l0) : rdF C_63 O_63 L_63 31 0 0 sh_63_l0 bs_63_l0 x =
 laws_sameTree_l0K x.1 x.2.1 x.2.2.1 (fun y => some (Ex.normal, encSt sh_63_l0 bs_63_l0 y)) (fun a => some (Ex.exit 0, encSt xs_63_l0 xb_63_l0 a)) (fun b => some (Ex.ret, encSt ys_63_l0 yb_63_l0 b)) := by kernel_rfl
theorem lo_63_l0 : loF C_63 O_63 L_63 31 0 0 lc_63_l0 :=
 LCon.shape_ok (fun a => by simp) fun x => (r_63_l0 x).trans (laws_sameTree_l0_eq x.1 x.2.1 x.2.2.1 _ _ _)
theorem lf_63 : LoopsFn Try.prog C_63 O_63 31 L_63 := LoopsFn.all (by kernel_rfl) (by decide) ⟨lo_63_l0, trivial⟩
def sa_63 : List S2 := [.one (.dat (.sl tEntry)), .one (.dat (.sl tEntry))]
def ba_63 : List SB := []
def out_63 (r : Bool) : AV × Store := out1 (.one (.dat .bool)) [] (r, ())
theorem w_63 (x : FAr sa_63 ba_63) : evF C_63 O_63 L_63 31 sa_63 ba_63 x =
 laws_sameTreeK x.1 x.2.1 (fun r => some (out_63 r)) := by kernel_rfl
theorem sem_63 : SemF 31 sa_63 ba_63 (fun x => laws_sameTree x.1 x.2.1) out_63 :=
 sem_of folP okP tabP (Oracle.of_ok Oracle.nil_ok) lf_63 fun x => (w_63 x).trans (laws_sameTree_eq x.1 x.2.1 _)
noncomputable def c_63 : Con := Con.shape sa_63 ba_63 (fun x => laws_sameTree x.1 x.2.1) out_63
theorem ok_63 : ConOk Try.prog 31 c_63 := Con.shape_ok sem_63

/-! 63 -/
def C_64 : Cfg := { T := tab, hint := fun _ => { keepR := [0, 1, 4, 5, 10, 14, 25], res := [4], order := [(6, tns .read 0 5 ++ tns .forced 5 4)], keepL := [(0, [0, 1, 5])], keepX := [(0, []), (1, [0, 1, 5])] }, mode := fun _ => .borrow }
noncomputable def O_64 : Oracle := Oracle.of []
def sh_64_l0 : List (Nat × S2) := [(0, .one (.dat (.sl I))), (1, .one (.dat (.sl I))), (5, .one (.dat I))]
def bs_64_l0 : List SB := []
def xs_64_l0 : List (Nat × S2) := []
def xb_64_l0 : List SB := []
def ys_64_l0 : List (Nat × S2) := [(4, .one (.dat .bool))]
def yb_64_l0 : List SB := []
noncomputable def lc_64_l0 : LCon := LCon.shape sh_64_l0 bs_64_l0 laws_sameInts_l0 (fun a => (.exit 0, encSt xs_64_l0 xb_64_l0 a)) (fun b => encSt ys_64_l0 yb_64_l0 b)
noncomputable def L_64 : Loops := Loops.of [(0, lc_64_l0)]
theorem r_64_l0 (x : FSt sh_64_l0 bs_64_l0) : rdF C_64 O_64 L_64 63 0 0 sh_64_l0 bs_64_l0 x =
 laws_sameInts_l0K x.1 x.2.1 x.2.2.1 (fun y => some (Ex.normal, encSt sh_64_l0 bs_64_l0 y)) (fun a => some (Ex.exit 0, encSt xs_64_l0 xb_64_l0 a)) (fun b => some (Ex.ret, encSt ys_64_l0 yb_64_l0 b)) := by kernel_rfl
theorem lo_64_l0 : loF C_64 O_64 L_64 63 0 0 lc_64_l0 :=
 LCon.shape_ok (fun a => by simp) fun x => (r_64_l0 x).trans (laws_sameInts_l0_eq x.1 x.2.1 x.2.2.1 _ _ _)
theorem lf_64 : LoopsFn Try.prog C_64 O_64 63 L_64 := LoopsFn.all (by kernel_rfl) (by decide) ⟨lo_64_l0, trivial⟩
def sa_64 : List S2 := [.one (.dat (.sl I)), .one (.dat (.sl I))]
def ba_64 : List SB := []
def out_64 (r : Bool) : AV × Store := out1 (.one (.dat .bool)) [] (r, ())
theorem w_64 (x : FAr sa_64 ba_64) : evF C_64 O_64 L_64 63 sa_64 ba_64 x =
 laws_sameIntsK x.1 x.2.1 (fun r => some (out_64 r)) := by kernel_rfl
theorem sem_64 : SemF 63 sa_64 ba_64 (fun x => laws_sameInts x.1 x.2.1) out_64 :=
 sem_of folP okP tabP (Oracle.of_ok Oracle.nil_ok) lf_64 fun x => (w_64 x).trans (laws_sameInts_eq x.1 x.2.1 _)
noncomputable def c_64 : Con := Con.shape sa_64 ba_64 (fun x => laws_sameInts x.1 x.2.1) out_64
theorem ok_64 : ConOk Try.prog 63 c_64 := Con.shape_ok sem_64

/-! 22 -/
def C_65 : Cfg := { T := tab, hint := fun _ => { keepR := [2, 3, 4], res := [4] }, mode := fun _ => .borrow }
noncomputable def O_65 : Oracle := Oracle.of [(31, c_63), (63, c_64)]
noncomputable def L_65 : Loops := Loops.of []
theorem lf_65 : LoopsFn Try.prog C_65 O_65 22 L_65 := LoopsFn.nil' (by kernel_rfl)
def sa_65 : List S2 := [.one (.dat tKernel), .one (.dat tKernel)]
def ba_65 : List SB := []
def out_65 (r : Bool) : AV × Store := out1 (.one (.dat .bool)) [] (r, ())
theorem w_65 (x : FAr sa_65 ba_65) : evF C_65 O_65 L_65 22 sa_65 ba_65 x =
 laws_sameKernelK x.1 x.2.1 (fun r => some (out_65 r)) := by kernel_rfl
theorem sem_65 : SemF 22 sa_65 ba_65 (fun x => laws_sameKernel x.1 x.2.1) out_65 :=
 sem_of folP okP tabP (Oracle.of_ok (Oracle.cons_ok ok_63 (Oracle.cons_ok ok_64 Oracle.nil_ok))) lf_65 fun x => (w_65 x).trans (laws_sameKernel_eq x.1 x.2.1 _)
noncomputable def c_65 : Con := Con.shape sa_65 ba_65 (fun x => laws_sameKernel x.1 x.2.1) out_65
theorem ok_65 : ConOk Try.prog 22 c_65 := Con.shape_ok sem_65

/-! 24 -/
def sa_66 : List S2 := []
def ba_66 : List SB := []
def out_66 (r : Bool) : AV × Store := out1 (.one (.dat .bool)) [] (r, ())
theorem sem_66 : SemF 24 sa_66 ba_66 (fun x => laws_alive) out_66 := fun x y h => by
  have e : y = true := (Option.some.inj h).symm
  subst e
  exact sem_of_below ⟨_, _, Try.func24, rfl, by kernel_rfl⟩ Try.aliveCalls
noncomputable def c_66 : Con := Con.shape sa_66 ba_66 (fun x => laws_alive) out_66
theorem ok_66 : ConOk Try.prog 24 c_66 := Con.shape_ok sem_66

/-! 25 -/
def C_67 : Cfg := { T := tab, hint := fun _ => { mu := [9], keepR := [0, 1, 2, 6, 7, 9, 12, 13, 14, 15, 16, 35], res := [6], keepL := [(0, [1, 2, 7, 13, 14, 15])], keepX := [(0, [7]), (1, [1, 2, 7, 13, 14, 15])] }, mode := fun _ => .borrow }
noncomputable def O_67 : Oracle := Oracle.of [(70, c_42)]
def sh_67_l0 : List (Nat × S2) := [(1, .one (.dat I)), (2, .one (.dat I)), (7, .one (.dat I)), (13, .one (.dat (.sl tEntry))), (14, .one (.dat I)), (15, .one (.dat I))]
def bs_67_l0 : List SB := []
def xs_67_l0 : List (Nat × S2) := [(7, .one (.dat I))]
def xb_67_l0 : List SB := []
noncomputable def lc_67_l0 : LCon := LCon.shape1 sh_67_l0 bs_67_l0 impl_StrongestLeft_l0 (fun a => (.exit 0, encSt xs_67_l0 xb_67_l0 a))
noncomputable def L_67 : Loops := Loops.of [(0, lc_67_l0)]
theorem r_67_l0 (x : FSt sh_67_l0 bs_67_l0) : rdF C_67 O_67 L_67 25 0 0 sh_67_l0 bs_67_l0 x =
 impl_StrongestLeft_l0K x.1 x.2.1 x.2.2.1 x.2.2.2.1 x.2.2.2.2.1 x.2.2.2.2.2.1 (fun y => some (Ex.normal, encSt sh_67_l0 bs_67_l0 y)) (fun a => some (Ex.exit 0, encSt xs_67_l0 xb_67_l0 a)) := by kernel_rfl
theorem lo_67_l0 : loF C_67 O_67 L_67 25 0 0 lc_67_l0 :=
 LCon.shape1_ok (fun a => by simp) fun x => (r_67_l0 x).trans (impl_StrongestLeft_l0_eq x.1 x.2.1 x.2.2.1 x.2.2.2.1 x.2.2.2.2.1 x.2.2.2.2.2.1 _ _)
theorem lf_67 : LoopsFn Try.prog C_67 O_67 25 L_67 := LoopsFn.all (by kernel_rfl) (by decide) ⟨lo_67_l0, trivial⟩
def sa_67 : List S2 := [.one (.dat (.sl tEntry)), .one (.dat I), .one (.dat I)]
def ba_67 : List SB := []
def out_67 (r : Int) : AV × Store := out1 (.one (.dat I)) [] (r, ())
theorem w_67 (x : FAr sa_67 ba_67) : evF C_67 O_67 L_67 25 sa_67 ba_67 x =
 impl_StrongestLeftK x.1 x.2.1 x.2.2.1 (fun r => some (out_67 r)) := by kernel_rfl
theorem sem_67 : SemF 25 sa_67 ba_67 (fun x => impl_StrongestLeft x.1 x.2.1 x.2.2.1) out_67 :=
 sem_of folP okP tabP (Oracle.of_ok (Oracle.cons_ok ok_42 Oracle.nil_ok)) lf_67 fun x => (w_67 x).trans (impl_StrongestLeft_eq x.1 x.2.1 x.2.2.1 _)
noncomputable def c_67 : Con := Con.shape sa_67 ba_67 (fun x => impl_StrongestLeft x.1 x.2.1 x.2.2.1) out_67
theorem ok_67 : ConOk Try.prog 25 c_67 := Con.shape_ok sem_67

/-! 3 -/
def C_68 : Cfg := { T := tab, hint := fun _ => { mu := [3, 8, 10, 14], keepR := [0, 2, 3, 4, 5, 6, 7, 8, 9, 10, 11, 12, 13, 14, 17, 52, 54, 71, 94], res := [2], order := [(15, tns .read 0 11 ++ tns .forced 11 4), (17, [(0, .forced), (1, .forced), (2, .forced)] ++ tns .read 3 5 ++ tns .forced 8 4 ++ tns .read 12 7 ++ tns .forced 19 6 ++ tns .read 25 10 ++ tns .forced 35 9)], keepL := [(0, [3, 4, 5, 8, 12, 13])], keepX := [(0, [3, 4, 5, 8, 12]), (1, [3, 4, 5, 8, 12, 13])] }, mode := fun _ => .borrow }
noncomputable def O_68 : Oracle := Oracle.of [(19, c_34), (20, c_62), (21, c_23), (22, c_65), (23, c_12), (24, c_66), (25, c_67), (26, c_49), (27, c_41)]
def sh_68_l0 : List (Nat × S2) := [(3, .one (.ptr 0 0 0)), (4, .one (.dat I)), (5, .one (.dat I)), (8, .one (.ptr 1 0 0)), (12, .one (.dat I)), (13, .one (.dat I))]
def bs_68_l0 : List SB := [.var [.dat I, .dat I, .dat I, .dat (.sl tEntry), .dat (.sl I), .dat I], .var [.dat I, .dat I, .dat I, .dat (.sl tEntry), .dat (.sl I), .dat I]]
def xs_68_l0 : List (Nat × S2) := [(3, .one (.ptr 0 0 0)), (4, .one (.dat I)), (5, .one (.dat I)), (8, .one (.ptr 1 0 0)), (12, .one (.dat I))]
def xb_68_l0 : List SB := [.var [.dat I, .dat I, .dat I, .dat (.sl tEntry), .dat (.sl I), .dat I], .var [.dat I, .dat I, .dat I, .dat (.sl tEntry), .dat (.sl I), .dat I]]
def ys_68_l0 : List (Nat × S2) := [(2, .one (.dat .bool))]
def yb_68_l0 : List SB := []
noncomputable def lc_68_l0 : LCon := LCon.shape sh_68_l0 bs_68_l0 laws_FnSysMint_l0 (fun a => (.exit 0, encSt xs_68_l0 xb_68_l0 a)) (fun b => encSt ys_68_l0 yb_68_l0 b)
noncomputable def L_68 : Loops := Loops.of [(0, lc_68_l0)]
theorem r_68_l0 (x : FSt sh_68_l0 bs_68_l0) : rdF C_68 O_68 L_68 3 0 0 sh_68_l0 bs_68_l0 x =
 laws_FnSysMint_l0K x.1 x.2.1 x.2.2.1 x.2.2.2.1 x.2.2.2.2.1 x.2.2.2.2.2.1 x.2.2.2.2.2.2.1 x.2.2.2.2.2.2.2.1 x.2.2.2.2.2.2.2.2.1 x.2.2.2.2.2.2.2.2.2.1 x.2.2.2.2.2.2.2.2.2.2.1 x.2.2.2.2.2.2.2.2.2.2.2.1 x.2.2.2.2.2.2.2.2.2.2.2.2.1 x.2.2.2.2.2.2.2.2.2.2.2.2.2.1 x.2.2.2.2.2.2.2.2.2.2.2.2.2.2.1 x.2.2.2.2.2.2.2.2.2.2.2.2.2.2.2.1 (fun y => some (Ex.normal, encSt sh_68_l0 bs_68_l0 y)) (fun a => some (Ex.exit 0, encSt xs_68_l0 xb_68_l0 a)) (fun b => some (Ex.ret, encSt ys_68_l0 yb_68_l0 b)) := by kernel_rfl
theorem lo_68_l0 : loF C_68 O_68 L_68 3 0 0 lc_68_l0 :=
 LCon.shape_ok (fun a => by simp) fun x => (r_68_l0 x).trans (laws_FnSysMint_l0_eq x.1 x.2.1 x.2.2.1 x.2.2.2.1 x.2.2.2.2.1 x.2.2.2.2.2.1 x.2.2.2.2.2.2.1 x.2.2.2.2.2.2.2.1 x.2.2.2.2.2.2.2.2.1 x.2.2.2.2.2.2.2.2.2.1 x.2.2.2.2.2.2.2.2.2.2.1 x.2.2.2.2.2.2.2.2.2.2.2.1 x.2.2.2.2.2.2.2.2.2.2.2.2.1 x.2.2.2.2.2.2.2.2.2.2.2.2.2.1 x.2.2.2.2.2.2.2.2.2.2.2.2.2.2.1 x.2.2.2.2.2.2.2.2.2.2.2.2.2.2.2.1 _ _ _)
theorem lf_68 : LoopsFn Try.prog C_68 O_68 3 L_68 := LoopsFn.all (by kernel_rfl) (by decide) ⟨lo_68_l0, trivial⟩
def sa_68 : List S2 := [.one (.dat (.sl (.int .u8)))]
def ba_68 : List SB := []
def out_68 (r : Bool) : AV × Store := out1 (.one (.dat .bool)) [] (r, ())
theorem w_68 (x : FAr sa_68 ba_68) : evF C_68 O_68 L_68 3 sa_68 ba_68 x =
 laws_FnSysMintK x.1 (fun r => some (out_68 r)) := by kernel_rfl
theorem sem_68 : SemF 3 sa_68 ba_68 (fun x => laws_FnSysMint x.1) out_68 :=
 sem_of folP okP tabP (Oracle.of_ok (Oracle.cons_ok ok_34 (Oracle.cons_ok ok_62 (Oracle.cons_ok ok_23 (Oracle.cons_ok ok_65 (Oracle.cons_ok ok_12 (Oracle.cons_ok ok_66 (Oracle.cons_ok ok_67 (Oracle.cons_ok ok_49 (Oracle.cons_ok ok_41 Oracle.nil_ok)))))))))) lf_68 fun x => (w_68 x).trans (laws_FnSysMint_eq x.1 _)
noncomputable def c_68 : Con := Con.shape sa_68 ba_68 (fun x => laws_FnSysMint x.1) out_68
theorem ok_68 : ConOk Try.prog 3 c_68 := Con.shape_ok sem_68

/-! 28 -/
def C_69 : Cfg := { T := tab, hint := fun _ => { mu := [2, 6, 9], keepR := [0, 2, 3, 4, 5, 6, 7], res := [2, 3, 4], order := [(4, [(2, .read), (3, .read), (1, .pure), (0, .aside [1, 2, 3])] ++ tns .forced 4 4)] }, mode := modeOf [(52, .sub), (53, .sub), (55, .sub)] }
noncomputable def O_69 : Oracle := Oracle.of [(51, c_0), (52, c_31), (53, c_32), (55, c_1)]
noncomputable def L_69 : Loops := Loops.of []
theorem lf_69 : LoopsFn Try.prog C_69 O_69 28 L_69 := LoopsFn.nil' (by kernel_rfl)
def sa_69 : List S2 := [.one (.dat (.sl (.int .u8)))]
def ba_69 : List SB := []
def out_69 (r : Int × Int × Int × Int × Int × Int × (List DEntry) × (List Int)) : AV × Store := outT [.agg [.dat I, .dat I, .dat I, .all 0, .all 1, .dat I], .one (.dat I), .one (.dat I)] [.data tEntry, .data I] (r.1, r.2.1, r.2.2.1, r.2.2.2.1, r.2.2.2.2.1, r.2.2.2.2.2.1, r.2.2.2.2.2.2.1, r.2.2.2.2.2.2.2, ())
theorem w_69 (x : FAr sa_69 ba_69) : evF C_69 O_69 L_69 28 sa_69 ba_69 x =
 spec_DrawSysRetypeK x.1 (fun r => some (out_69 r)) := by kernel_rfl
theorem sem_69 : SemF 28 sa_69 ba_69 (fun x => spec_DrawSysRetype x.1) out_69 :=
 sem_of folP okP tabP (Oracle.of_ok (Oracle.cons_ok ok_0 (Oracle.cons_ok ok_31 (Oracle.cons_ok ok_32 (Oracle.cons_ok ok_1 Oracle.nil_ok))))) lf_69 fun x => (w_69 x).trans (spec_DrawSysRetype_eq x.1 _)
noncomputable def c_69 : Con := Con.shape sa_69 ba_69 (fun x => spec_DrawSysRetype x.1) out_69
theorem ok_69 : ConOk Try.prog 28 c_69 := Con.shape_ok sem_69

/-! 78 -/
def C_70 : Cfg := { T := tab, hint := fun _ => { keep := [8], keepR := [0, 2, 3, 4, 6, 8, 12], res := [2], keepX := [(0, [])] }, mode := fun _ => .borrow }
noncomputable def O_70 : Oracle := Oracle.of []
noncomputable def L_70 : Loops := Loops.of []
theorem lf_70 : LoopsFn Try.prog C_70 O_70 78 L_70 := LoopsFn.nil' (by kernel_rfl)
def sa_70 : List S2 := [.one (.dat I)]
def ba_70 : List SB := []
def out_70 (r : Int) : AV × Store := out1 (.one (.dat I)) [] (r, ())
theorem w_70 (x : FAr sa_70 ba_70) : evF C_70 O_70 L_70 78 sa_70 ba_70 x =
 impl_ObjectBitsK x.1 (fun r => some (out_70 r)) := by kernel_rfl
theorem sem_70 : SemF 78 sa_70 ba_70 (fun x => impl_ObjectBits x.1) out_70 :=
 sem_of folP okP tabP (Oracle.of_ok Oracle.nil_ok) lf_70 fun x => (w_70 x).trans (impl_ObjectBits_eq x.1 _)
noncomputable def c_70 : Con := Con.shape sa_70 ba_70 (fun x => impl_ObjectBits x.1) out_70
theorem ok_70 : ConOk Try.prog 78 c_70 := Con.shape_ok sem_70

/-! 119 -/
def C_71 : Cfg := { T := tab, hint := fun _ => { keepR := [1, 2, 4, 5, 6, 7], res := [4, 5], order := [(3, tns .read 0 12 ++ [(12, .forced), (13, .forced)])] }, mode := fun _ => .borrow }
noncomputable def O_71 : Oracle := Oracle.of []
noncomputable def L_71 : Loops := Loops.of []
theorem lf_71 : LoopsFn Try.prog C_71 O_71 119 L_71 := LoopsFn.nil' (by kernel_rfl)
def sa_71 : List S2 := [.one (.dat tPiece), .one (.dat I)]
def ba_71 : List SB := []
def out_71 (r : Int × Int) : AV × Store := outT [.one (.dat I), .one (.dat I)] [] (r.1, r.2, ())
theorem w_71 (x : FAr sa_71 ba_71) : evF C_71 O_71 L_71 119 sa_71 ba_71 x =
 impl_Piece_roomK x.1 x.2.1 (fun r => some (out_71 r)) := by kernel_rfl
theorem sem_71 : SemF 119 sa_71 ba_71 (fun x => impl_Piece_room x.1 x.2.1) out_71 :=
 sem_of folP okP tabP (Oracle.of_ok Oracle.nil_ok) lf_71 fun x => (w_71 x).trans (impl_Piece_room_eq x.1 x.2.1 _)
noncomputable def c_71 : Con := Con.shape sa_71 ba_71 (fun x => impl_Piece_room x.1 x.2.1) out_71
theorem ok_71 : ConOk Try.prog 119 c_71 := Con.shape_ok sem_71

/-! 79 -/
def C_72 : Cfg := { T := tab, hint := fun _ => { mu := [3, 6, 7, 38], keepR := [1, 2, 3, 6, 7, 8, 9, 10, 11, 12, 25, 35, 40, 41, 42], res := [6, 7, 8], order := [(12, tns .read 0 5 ++ tns .forced 5 5)], keepL := [(0, [1, 2, 3, 6, 9, 11, 40, 41])], keepX := [(0, [1, 2, 3, 6, 9, 11]), (1, [1, 2, 3, 6, 9, 11, 40, 41])] }, mode := fun _ => .borrow }
noncomputable def O_72 : Oracle := Oracle.of [(71, c_36), (73, c_35), (119, c_71)]
def sh_72_l0 : List (Nat × S2) := [(1, .one (.dat I)), (2, .one (.dat I)), (3, .one (.ptr 0 0 0)), (6, .one (.ptr 1 0 0)), (9, .one (.dat I)), (11, .one (.all 2)), (40, .one (.dat I)), (41, .one (.dat I))]
def bs_72_l0 : List SB := [.one tPiece, .one tPiece, .data I]
def xs_72_l0 : List (Nat × S2) := [(1, .one (.dat I)), (2, .one (.dat I)), (3, .one (.ptr 0 0 0)), (6, .one (.ptr 1 0 0)), (9, .one (.dat I)), (11, .one (.all 2))]
def xb_72_l0 : List SB := [.one tPiece, .one tPiece, .data I]
noncomputable def lc_72_l0 : LCon := LCon.shape1 sh_72_l0 bs_72_l0 impl_RetypePiece_l0 (fun a => (.exit 0, encSt xs_72_l0 xb_72_l0 a))
noncomputable def L_72 : Loops := Loops.of [(0, lc_72_l0)]
theorem r_72_l0 (x : FSt sh_72_l0 bs_72_l0) : rdF C_72 O_72 L_72 79 0 0 sh_72_l0 bs_72_l0 x =
 impl_RetypePiece_l0K x.1 x.2.1 x.2.2.1 x.2.2.2.1 x.2.2.2.2.1 x.2.2.2.2.2.1 x.2.2.2.2.2.2.1 x.2.2.2.2.2.2.2.1 (fun y => some (Ex.normal, encSt sh_72_l0 bs_72_l0 y)) (fun a => some (Ex.exit 0, encSt xs_72_l0 xb_72_l0 a)) := by kernel_rfl
theorem lo_72_l0 : loF C_72 O_72 L_72 79 0 0 lc_72_l0 :=
 LCon.shape1_ok (fun a => by simp) fun x => (r_72_l0 x).trans (impl_RetypePiece_l0_eq x.1 x.2.1 x.2.2.1 x.2.2.2.1 x.2.2.2.2.1 x.2.2.2.2.2.1 x.2.2.2.2.2.2.1 x.2.2.2.2.2.2.2.1 _ _)
theorem lf_72 : LoopsFn Try.prog C_72 O_72 79 L_72 := LoopsFn.all (by kernel_rfl) (by decide) ⟨lo_72_l0, trivial⟩
def sa_72 : List S2 := [.one (.dat tPiece), .one (.dat I), .one (.dat I)]
def ba_72 : List SB := []
def out_72 (r : DPiece × Bool × (List Int)) : AV × Store := outT [.one (.dat tPiece), .one (.all 0), .one (.dat .bool)] [.data I] (r.1, r.2.1, r.2.2, ())
theorem w_72 (x : FAr sa_72 ba_72) : evF C_72 O_72 L_72 79 sa_72 ba_72 x =
 impl_RetypePieceK x.1 x.2.1 x.2.2.1 (fun r => some (out_72 r)) := by kernel_rfl
theorem sem_72 : SemF 79 sa_72 ba_72 (fun x => impl_RetypePiece x.1 x.2.1 x.2.2.1) out_72 :=
 sem_of folP okP tabP (Oracle.of_ok (Oracle.cons_ok ok_36 (Oracle.cons_ok ok_35 (Oracle.cons_ok ok_71 Oracle.nil_ok)))) lf_72 fun x => (w_72 x).trans (impl_RetypePiece_eq x.1 x.2.1 x.2.2.1 _)
noncomputable def c_72 : Con := Con.shape sa_72 ba_72 (fun x => impl_RetypePiece x.1 x.2.1 x.2.2.1) out_72
theorem ok_72 : ConOk Try.prog 79 c_72 := Con.shape_ok sem_72

/-! 29 -/
def C_73 : Cfg := { T := tab, hint := fun _ => { mu := [6, 8, 10, 18, 64], keepR := [1, 2, 3, 6, 7, 8, 9, 10, 12, 15, 21, 27, 31, 51], res := [6, 7], keepX := [(0, [1, 2, 3, 6, 8, 9])], fillR := true }, mode := fun _ => .borrow }
noncomputable def O_73 : Oracle := Oracle.of [(26, c_49), (56, c_56), (58, c_58), (78, c_70), (79, c_72), (80, c_52)]
noncomputable def L_73 : Loops := Loops.of []
theorem lf_73 : LoopsFn Try.prog C_73 O_73 29 L_73 := LoopsFn.nil' (by kernel_rfl)
def sa_73 : List S2 := [.one (.dat tKernel), .one (.dat I), .one (.dat I)]
def ba_73 : List SB := []
def out_73 (r : Int × Int × Int × Int × Int × (List DEntry) × (List Int)) : AV × Store := outT [.agg [.dat I, .dat I, .dat I, .all 0, .all 1, .dat I], .one (.dat I)] [.data tEntry, .data I] (r.1, r.2.1, r.2.2.1, r.2.2.2.1, r.2.2.2.2.1, r.2.2.2.2.2.1, r.2.2.2.2.2.2, ())
theorem w_73 (x : FAr sa_73 ba_73) : evF C_73 O_73 L_73 29 sa_73 ba_73 x =
 impl_SysRetypeK x.1 x.2.1 x.2.2.1 (fun r => some (out_73 r)) := by kernel_rfl
theorem sem_73 : SemF 29 sa_73 ba_73 (fun x => impl_SysRetype x.1 x.2.1 x.2.2.1) out_73 :=
 sem_of folP okP tabP (Oracle.of_ok (Oracle.cons_ok ok_49 (Oracle.cons_ok ok_56 (Oracle.cons_ok ok_58 (Oracle.cons_ok ok_70 (Oracle.cons_ok ok_72 (Oracle.cons_ok ok_52 Oracle.nil_ok))))))) lf_73 fun x => (w_73 x).trans (impl_SysRetype_eq x.1 x.2.1 x.2.2.1 _)
noncomputable def c_73 : Con := Con.shape sa_73 ba_73 (fun x => impl_SysRetype x.1 x.2.1 x.2.2.1) out_73
theorem ok_73 : ConOk Try.prog 29 c_73 := Con.shape_ok sem_73

/-! 4 -/
def C_74 : Cfg := { T := tab, hint := fun _ => { mu := [3, 6, 8], keepR := [0, 2, 3, 4, 5, 6, 7, 8, 9, 10, 13, 42, 44], res := [2], order := [(11, [(0, .forced), (1, .forced), (2, .forced), (3, .read), (4, .read), (5, .read)] ++ tns .forced 6 5 ++ tns .read 11 4 ++ tns .forced 15 5 ++ tns .read 20 5 ++ tns .forced 25 4 ++ tns .read 29 7 ++ tns .forced 36 6 ++ [(42, .read), (43, .read), (44, .read)] ++ tns .forced 45 6)] }, mode := fun _ => .borrow }
noncomputable def O_74 : Oracle := Oracle.of [(22, c_65), (23, c_12), (24, c_66), (25, c_67), (26, c_49), (28, c_69), (29, c_73), (30, c_19), (31, c_63)]
noncomputable def L_74 : Loops := Loops.of []
theorem lf_74 : LoopsFn Try.prog C_74 O_74 4 L_74 := LoopsFn.nil' (by kernel_rfl)
def sa_74 : List S2 := [.one (.dat (.sl (.int .u8)))]
def ba_74 : List SB := []
def out_74 (r : Bool) : AV × Store := out1 (.one (.dat .bool)) [] (r, ())
theorem w_74 (x : FAr sa_74 ba_74) : evF C_74 O_74 L_74 4 sa_74 ba_74 x =
 laws_FnSysRetypeK x.1 (fun r => some (out_74 r)) := by kernel_rfl
theorem sem_74 : SemF 4 sa_74 ba_74 (fun x => laws_FnSysRetype x.1) out_74 :=
 sem_of folP okP tabP (Oracle.of_ok (Oracle.cons_ok ok_65 (Oracle.cons_ok ok_12 (Oracle.cons_ok ok_66 (Oracle.cons_ok ok_67 (Oracle.cons_ok ok_49 (Oracle.cons_ok ok_69 (Oracle.cons_ok ok_73 (Oracle.cons_ok ok_19 (Oracle.cons_ok ok_63 Oracle.nil_ok)))))))))) lf_74 fun x => (w_74 x).trans (laws_FnSysRetype_eq x.1 _)
noncomputable def c_74 : Con := Con.shape sa_74 ba_74 (fun x => laws_FnSysRetype x.1) out_74
theorem ok_74 : ConOk Try.prog 4 c_74 := Con.shape_ok sem_74

/-! 138 -/
def C_75 : Cfg := { T := tab, hint := fun _ => { keepR := [0, 1, 4, 5, 6, 7, 8, 9, 10, 11, 12, 13], res := [4, 5] }, mode := fun _ => .borrow }
noncomputable def O_75 : Oracle := Oracle.of []
noncomputable def L_75 : Loops := Loops.of []
theorem lf_75 : LoopsFn Try.prog C_75 O_75 138 L_75 := LoopsFn.nil' (by kernel_rfl)
def sa_75 : List S2 := [.one (.dat (.int .u64)), .one (.dat (.int .u64))]
def ba_75 : List SB := []
def out_75 (r : Int × Int) : AV × Store := outT [.one (.dat (.int .u64)), .one (.dat (.int .u64))] [] (r.1, r.2, ())
theorem w_75 (x : FAr sa_75 ba_75) : evF C_75 O_75 L_75 138 sa_75 ba_75 x =
 math_bits_Mul64K x.1 x.2.1 (fun r => some (out_75 r)) := by kernel_rfl
theorem sem_75 : SemF 138 sa_75 ba_75 (fun x => math_bits_Mul64 x.1 x.2.1) out_75 :=
 sem_of folP okP tabP (Oracle.of_ok Oracle.nil_ok) lf_75 fun x => (w_75 x).trans (math_bits_Mul64_eq x.1 x.2.1 _)
noncomputable def c_75 : Con := Con.shape sa_75 ba_75 (fun x => math_bits_Mul64 x.1 x.2.1) out_75
theorem ok_75 : ConOk Try.prog 138 c_75 := Con.shape_ok sem_75

/-! 124 -/
def C_76 : Cfg := { T := tab, hint := fun _ => { keepR := [0, 1, 4, 5, 6, 7, 8, 9], res := [4, 5] }, mode := fun _ => .borrow }
noncomputable def O_76 : Oracle := Oracle.of [(138, c_75)]
noncomputable def L_76 : Loops := Loops.of []
theorem lf_76 : LoopsFn Try.prog C_76 O_76 124 L_76 := LoopsFn.nil' (by kernel_rfl)
def sa_76 : List S2 := [.one (.dat (.int .u64)), .one (.dat (.int .u64))]
def ba_76 : List SB := []
def out_76 (r : Int × Int) : AV × Store := outT [.one (.dat (.int .u64)), .one (.dat (.int .u64))] [] (r.1, r.2, ())
theorem w_76 (x : FAr sa_76 ba_76) : evF C_76 O_76 L_76 124 sa_76 ba_76 x =
 math_bits_MulK x.1 x.2.1 (fun r => some (out_76 r)) := by kernel_rfl
theorem sem_76 : SemF 124 sa_76 ba_76 (fun x => math_bits_Mul x.1 x.2.1) out_76 :=
 sem_of folP okP tabP (Oracle.of_ok (Oracle.cons_ok ok_75 Oracle.nil_ok)) lf_76 fun x => (w_76 x).trans (math_bits_Mul_eq x.1 x.2.1 _)
noncomputable def c_76 : Con := Con.shape sa_76 ba_76 (fun x => math_bits_Mul x.1 x.2.1) out_76
theorem ok_76 : ConOk Try.prog 124 c_76 := Con.shape_ok sem_76

/-! 83 -/
def C_77 : Cfg := { T := tab, hint := fun _ => { mu := [30], keepR := [0, 1, 4, 5, 6, 7, 8, 10, 26, 37], res := [4], order := [(9, tns .read 1 6 ++ [(0, .pure), (7, .forced), (8, .forced), (9, .forced)])], keepL := [(0, [7, 8])], keepX := [(0, [7]), (1, [7, 8])] }, mode := fun _ => .borrow }
noncomputable def O_77 : Oracle := Oracle.of [(124, c_76)]
def sh_77_l0 : List (Nat × S2) := [(7, .one (.all 0)), (8, .one (.dat I))]
def bs_77_l0 : List SB := [.data I]
def xs_77_l0 : List (Nat × S2) := [(7, .one (.all 0))]
def xb_77_l0 : List SB := [.data I]
noncomputable def lc_77_l0 : LCon := LCon.shape1 sh_77_l0 bs_77_l0 slices_Repeat_int_l0 (fun a => (.exit 0, encSt xs_77_l0 xb_77_l0 a))
noncomputable def L_77 : Loops := Loops.of [(0, lc_77_l0)]
theorem r_77_l0 (x : FSt sh_77_l0 bs_77_l0) : rdF C_77 O_77 L_77 83 0 0 sh_77_l0 bs_77_l0 x =
 slices_Repeat_int_l0K x.1 x.2.1 (fun y => some (Ex.normal, encSt sh_77_l0 bs_77_l0 y)) (fun a => some (Ex.exit 0, encSt xs_77_l0 xb_77_l0 a)) := by kernel_rfl
theorem lo_77_l0 : loF C_77 O_77 L_77 83 0 0 lc_77_l0 :=
 LCon.shape1_ok (fun a => by simp) fun x => (r_77_l0 x).trans (slices_Repeat_int_l0_eq x.1 x.2.1 _ _)
theorem lf_77 : LoopsFn Try.prog C_77 O_77 83 L_77 := LoopsFn.all (by kernel_rfl) (by decide) ⟨lo_77_l0, trivial⟩
def sa_77 : List S2 := [.one (.dat (.sl I)), .one (.dat I)]
def ba_77 : List SB := []
def out_77 (r : (List Int)) : AV × Store := out1 (.one (.all 0)) [.data I] (r, ())
theorem w_77 (x : FAr sa_77 ba_77) : evF C_77 O_77 L_77 83 sa_77 ba_77 x =
 slices_Repeat_intK x.1 x.2.1 (fun r => some (out_77 r)) := by kernel_rfl
theorem sem_77 : SemF 83 sa_77 ba_77 (fun x => slices_Repeat_int x.1 x.2.1) out_77 :=
 sem_of folP okP tabP (Oracle.of_ok (Oracle.cons_ok ok_76 Oracle.nil_ok)) lf_77 fun x => (w_77 x).trans (slices_Repeat_int_eq x.1 x.2.1 _)
noncomputable def c_77 : Con := Con.shape sa_77 ba_77 (fun x => slices_Repeat_int x.1 x.2.1) out_77
theorem ok_77 : ConOk Try.prog 83 c_77 := Con.shape_ok sem_77

/-! 33 -/
def C_78 : Cfg := { T := tab, hint := fun _ => { mu := [4, 18], keepR := [0, 1, 4, 12], res := [4], fillR := true }, mode := fun _ => .borrow }
noncomputable def O_78 : Oracle := Oracle.of [(73, c_35), (83, c_77)]
noncomputable def L_78 : Loops := Loops.of []
theorem lf_78 : LoopsFn Try.prog C_78 O_78 33 L_78 := LoopsFn.nil' (by kernel_rfl)
def sa_78 : List S2 := [.one (.dat I), .one (.dat I)]
def ba_78 : List SB := []
def out_78 (r : Int × Int × Int × Int × (List DEntry) × (List Int)) : AV × Store := out1 (.agg [.dat I, .dat I, .dat I, .all 0, .all 1, .dat I]) [.data tEntry, .data I] (r.1, r.2.1, r.2.2.1, r.2.2.2.1, r.2.2.2.2.1, r.2.2.2.2.2, ())
theorem w_78 (x : FAr sa_78 ba_78) : evF C_78 O_78 L_78 33 sa_78 ba_78 x =
 impl_NewKernelK x.1 x.2.1 (fun r => some (out_78 r)) := by kernel_rfl
theorem sem_78 : SemF 33 sa_78 ba_78 (fun x => impl_NewKernel x.1 x.2.1) out_78 :=
 sem_of folP okP tabP (Oracle.of_ok (Oracle.cons_ok ok_35 (Oracle.cons_ok ok_77 Oracle.nil_ok))) lf_78 fun x => (w_78 x).trans (impl_NewKernel_eq x.1 x.2.1 _)
noncomputable def c_78 : Con := Con.shape sa_78 ba_78 (fun x => impl_NewKernel x.1 x.2.1) out_78
theorem ok_78 : ConOk Try.prog 33 c_78 := Con.shape_ok sem_78

/-! 84 -/
def C_79 : Cfg := { T := tab, hint := fun _ => { keepR := [2, 3, 4, 9, 14, 19], res := [4] }, mode := fun _ => .borrow }
noncomputable def O_79 : Oracle := Oracle.of []
noncomputable def L_79 : Loops := Loops.of []
theorem lf_79 : LoopsFn Try.prog C_79 O_79 84 L_79 := LoopsFn.nil' (by kernel_rfl)
def sa_79 : List S2 := [.one (.dat tPiece), .one (.dat tPiece)]
def ba_79 : List SB := []
def out_79 (r : Bool) : AV × Store := out1 (.one (.dat .bool)) [] (r, ())
theorem w_79 (x : FAr sa_79 ba_79) : evF C_79 O_79 L_79 84 sa_79 ba_79 x =
 laws_eqPieceK x.1 x.2.1 (fun r => some (out_79 r)) := by kernel_rfl
theorem sem_79 : SemF 84 sa_79 ba_79 (fun x => laws_eqPiece x.1 x.2.1) out_79 :=
 sem_of folP okP tabP (Oracle.of_ok Oracle.nil_ok) lf_79 fun x => (w_79 x).trans (laws_eqPiece_eq x.1 x.2.1 _)
noncomputable def c_79 : Con := Con.shape sa_79 ba_79 (fun x => laws_eqPiece x.1 x.2.1) out_79
theorem ok_79 : ConOk Try.prog 84 c_79 := Con.shape_ok sem_79

/-! 139 -/
def C_80 : Cfg := { T := tab, hint := fun _ => { keepR := [2, 3, 4, 9, 14, 19, 24], res := [4] }, mode := fun _ => .borrow }
noncomputable def O_80 : Oracle := Oracle.of []
noncomputable def L_80 : Loops := Loops.of []
theorem lf_80 : LoopsFn Try.prog C_80 O_80 139 L_80 := LoopsFn.nil' (by kernel_rfl)
def sa_80 : List S2 := [.one (.dat tCap), .one (.dat tCap)]
def ba_80 : List SB := []
def out_80 (r : Bool) : AV × Store := out1 (.one (.dat .bool)) [] (r, ())
theorem w_80 (x : FAr sa_80 ba_80) : evF C_80 O_80 L_80 139 sa_80 ba_80 x =
 laws_eqCapK x.1 x.2.1 (fun r => some (out_80 r)) := by kernel_rfl
theorem sem_80 : SemF 139 sa_80 ba_80 (fun x => laws_eqCap x.1 x.2.1) out_80 :=
 sem_of folP okP tabP (Oracle.of_ok Oracle.nil_ok) lf_80 fun x => (w_80 x).trans (laws_eqCap_eq x.1 x.2.1 _)
noncomputable def c_80 : Con := Con.shape sa_80 ba_80 (fun x => laws_eqCap x.1 x.2.1) out_80
theorem ok_80 : ConOk Try.prog 139 c_80 := Con.shape_ok sem_80

/-! 125 -/
def C_81 : Cfg := { T := tab, hint := fun _ => { keepR := [2, 3, 4, 10, 15, 20], res := [4] }, mode := fun _ => .borrow }
noncomputable def O_81 : Oracle := Oracle.of [(139, c_80)]
noncomputable def L_81 : Loops := Loops.of []
theorem lf_81 : LoopsFn Try.prog C_81 O_81 125 L_81 := LoopsFn.nil' (by kernel_rfl)
def sa_81 : List S2 := [.one (.dat tEntry), .one (.dat tEntry)]
def ba_81 : List SB := []
def out_81 (r : Bool) : AV × Store := out1 (.one (.dat .bool)) [] (r, ())
theorem w_81 (x : FAr sa_81 ba_81) : evF C_81 O_81 L_81 125 sa_81 ba_81 x =
 laws_eqEntryK x.1 x.2.1 (fun r => some (out_81 r)) := by kernel_rfl
theorem sem_81 : SemF 125 sa_81 ba_81 (fun x => laws_eqEntry x.1 x.2.1) out_81 :=
 sem_of folP okP tabP (Oracle.of_ok (Oracle.cons_ok ok_80 Oracle.nil_ok)) lf_81 fun x => (w_81 x).trans (laws_eqEntry_eq x.1 x.2.1 _)
noncomputable def c_81 : Con := Con.shape sa_81 ba_81 (fun x => laws_eqEntry x.1 x.2.1) out_81
theorem ok_81 : ConOk Try.prog 125 c_81 := Con.shape_ok sem_81

/-! 85 -/
def C_82 : Cfg := { T := tab, hint := fun _ => { keepR := [0, 1, 4, 5, 10, 14, 26], res := [4], order := [(6, tns .read 0 5 ++ tns .forced 5 5)], keepL := [(0, [0, 1, 5])], keepX := [(0, []), (1, [0, 1, 5])] }, mode := fun _ => .borrow }
noncomputable def O_82 : Oracle := Oracle.of [(125, c_81)]
def sh_82_l0 : List (Nat × S2) := [(0, .one (.dat (.sl tEntry))), (1, .one (.dat (.sl tEntry))), (5, .one (.dat I))]
def bs_82_l0 : List SB := []
def xs_82_l0 : List (Nat × S2) := []
def xb_82_l0 : List SB := []
def ys_82_l0 : List (Nat × S2) := [(4, .one (.dat .bool))]
def yb_82_l0 : List SB := []
noncomputable def lc_82_l0 : LCon := LCon.shape sh_82_l0 bs_82_l0 laws_eqEntryS_l0 (fun a => (.exit 0, encSt xs_82_l0 xb_82_l0 a)) (fun b => encSt ys_82_l0 yb_82_l0 b)
noncomputable def L_82 : Loops := Loops.of [(0, lc_82_l0)]
theorem r_82_l0 (x : FSt sh_82_l0 bs_82_l0) : rdF C_82 O_82 L_82 85 0 0 sh_82_l0 bs_82_l0 x =
 laws_eqEntryS_l0K x.1 x.2.1 x.2.2.1 (fun y => some (Ex.normal, encSt sh_82_l0 bs_82_l0 y)) (fun a => some (Ex.exit 0, encSt xs_82_l0 xb_82_l0 a)) (fun b => some (Ex.ret, encSt ys_82_l0 yb_82_l0 b)) := by kernel_rfl
theorem lo_82_l0 : loF C_82 O_82 L_82 85 0 0 lc_82_l0 :=
 LCon.shape_ok (fun a => by simp) fun x => (r_82_l0 x).trans (laws_eqEntryS_l0_eq x.1 x.2.1 x.2.2.1 _ _ _)
theorem lf_82 : LoopsFn Try.prog C_82 O_82 85 L_82 := LoopsFn.all (by kernel_rfl) (by decide) ⟨lo_82_l0, trivial⟩
def sa_82 : List S2 := [.one (.dat (.sl tEntry)), .one (.dat (.sl tEntry))]
def ba_82 : List SB := []
def out_82 (r : Bool) : AV × Store := out1 (.one (.dat .bool)) [] (r, ())
theorem w_82 (x : FAr sa_82 ba_82) : evF C_82 O_82 L_82 85 sa_82 ba_82 x =
 laws_eqEntrySK x.1 x.2.1 (fun r => some (out_82 r)) := by kernel_rfl
theorem sem_82 : SemF 85 sa_82 ba_82 (fun x => laws_eqEntryS x.1 x.2.1) out_82 :=
 sem_of folP okP tabP (Oracle.of_ok (Oracle.cons_ok ok_81 Oracle.nil_ok)) lf_82 fun x => (w_82 x).trans (laws_eqEntryS_eq x.1 x.2.1 _)
noncomputable def c_82 : Con := Con.shape sa_82 ba_82 (fun x => laws_eqEntryS x.1 x.2.1) out_82
theorem ok_82 : ConOk Try.prog 85 c_82 := Con.shape_ok sem_82

/-! 86 -/
def C_83 : Cfg := { T := tab, hint := fun _ => { keepR := [0, 1, 4, 5, 10, 14, 25], res := [4], order := [(6, tns .read 0 5 ++ tns .forced 5 4)], keepL := [(0, [0, 1, 5])], keepX := [(0, []), (1, [0, 1, 5])] }, mode := fun _ => .borrow }
noncomputable def O_83 : Oracle := Oracle.of []
def sh_83_l0 : List (Nat × S2) := [(0, .one (.dat (.sl I))), (1, .one (.dat (.sl I))), (5, .one (.dat I))]
def bs_83_l0 : List SB := []
def xs_83_l0 : List (Nat × S2) := []
def xb_83_l0 : List SB := []
def ys_83_l0 : List (Nat × S2) := [(4, .one (.dat .bool))]
def yb_83_l0 : List SB := []
noncomputable def lc_83_l0 : LCon := LCon.shape sh_83_l0 bs_83_l0 laws_eqIntS_l0 (fun a => (.exit 0, encSt xs_83_l0 xb_83_l0 a)) (fun b => encSt ys_83_l0 yb_83_l0 b)
noncomputable def L_83 : Loops := Loops.of [(0, lc_83_l0)]
theorem r_83_l0 (x : FSt sh_83_l0 bs_83_l0) : rdF C_83 O_83 L_83 86 0 0 sh_83_l0 bs_83_l0 x =
 laws_eqIntS_l0K x.1 x.2.1 x.2.2.1 (fun y => some (Ex.normal, encSt sh_83_l0 bs_83_l0 y)) (fun a => some (Ex.exit 0, encSt xs_83_l0 xb_83_l0 a)) (fun b => some (Ex.ret, encSt ys_83_l0 yb_83_l0 b)) := by kernel_rfl
theorem lo_83_l0 : loF C_83 O_83 L_83 86 0 0 lc_83_l0 :=
 LCon.shape_ok (fun a => by simp) fun x => (r_83_l0 x).trans (laws_eqIntS_l0_eq x.1 x.2.1 x.2.2.1 _ _ _)
theorem lf_83 : LoopsFn Try.prog C_83 O_83 86 L_83 := LoopsFn.all (by kernel_rfl) (by decide) ⟨lo_83_l0, trivial⟩
def sa_83 : List S2 := [.one (.dat (.sl I)), .one (.dat (.sl I))]
def ba_83 : List SB := []
def out_83 (r : Bool) : AV × Store := out1 (.one (.dat .bool)) [] (r, ())
theorem w_83 (x : FAr sa_83 ba_83) : evF C_83 O_83 L_83 86 sa_83 ba_83 x =
 laws_eqIntSK x.1 x.2.1 (fun r => some (out_83 r)) := by kernel_rfl
theorem sem_83 : SemF 86 sa_83 ba_83 (fun x => laws_eqIntS x.1 x.2.1) out_83 :=
 sem_of folP okP tabP (Oracle.of_ok Oracle.nil_ok) lf_83 fun x => (w_83 x).trans (laws_eqIntS_eq x.1 x.2.1 _)
noncomputable def c_83 : Con := Con.shape sa_83 ba_83 (fun x => laws_eqIntS x.1 x.2.1) out_83
theorem ok_83 : ConOk Try.prog 86 c_83 := Con.shape_ok sem_83

/-! 34 -/
def C_84 : Cfg := { T := tab, hint := fun _ => { keepR := [2, 3, 4, 10, 16, 22, 27], res := [4] }, mode := fun _ => .borrow }
noncomputable def O_84 : Oracle := Oracle.of [(84, c_79), (85, c_82), (86, c_83)]
noncomputable def L_84 : Loops := Loops.of []
theorem lf_84 : LoopsFn Try.prog C_84 O_84 34 L_84 := LoopsFn.nil' (by kernel_rfl)
def sa_84 : List S2 := [.one (.dat tKernel), .one (.dat tKernel)]
def ba_84 : List SB := []
def out_84 (r : Bool) : AV × Store := out1 (.one (.dat .bool)) [] (r, ())
theorem w_84 (x : FAr sa_84 ba_84) : evF C_84 O_84 L_84 34 sa_84 ba_84 x =
 laws_eqKernelK x.1 x.2.1 (fun r => some (out_84 r)) := by kernel_rfl
theorem sem_84 : SemF 34 sa_84 ba_84 (fun x => laws_eqKernel x.1 x.2.1) out_84 :=
 sem_of folP okP tabP (Oracle.of_ok (Oracle.cons_ok ok_79 (Oracle.cons_ok ok_82 (Oracle.cons_ok ok_83 Oracle.nil_ok)))) lf_84 fun x => (w_84 x).trans (laws_eqKernel_eq x.1 x.2.1 _)
noncomputable def c_84 : Con := Con.shape sa_84 ba_84 (fun x => laws_eqKernel x.1 x.2.1) out_84
theorem ok_84 : ConOk Try.prog 34 c_84 := Con.shape_ok sem_84

/-! 87 -/
def C_85 : Cfg := { T := tab, hint := fun _ => { keepR := [0, 1, 4, 5, 9], res := [4], base := 1, keepL := [(0, [0, 1, 5])], keepX := [(0, [1]), (1, [0, 1, 5])] }, mode := fun _ => .borrow }
noncomputable def O_85 : Oracle := Oracle.of []
def sh_85_l0 : List (Nat × S2) := [(0, .one (.all 0)), (1, .one (.dat I)), (5, .one (.dat I))]
def bs_85_l0 : List SB := [.data tEntry]
def xs_85_l0 : List (Nat × S2) := [(1, .one (.dat I))]
def xb_85_l0 : List SB := [.data tEntry]
noncomputable def lc_85_l0 : LCon := LCon.shape1 sh_85_l0 bs_85_l0 laws_markEntryS_l0 (fun a => (.exit 0, encSt xs_85_l0 xb_85_l0 a))
noncomputable def L_85 : Loops := Loops.of [(0, lc_85_l0)]
theorem r_85_l0 (x : FSt sh_85_l0 bs_85_l0) : rdF C_85 O_85 L_85 87 0 0 sh_85_l0 bs_85_l0 x =
 laws_markEntryS_l0K x.1 x.2.1 x.2.2.1 (fun y => some (Ex.normal, encSt sh_85_l0 bs_85_l0 y)) (fun a => some (Ex.exit 0, encSt xs_85_l0 xb_85_l0 a)) := by kernel_rfl
theorem lo_85_l0 : loF C_85 O_85 L_85 87 0 0 lc_85_l0 :=
 LCon.shape1_ok (fun a => by simp) fun x => (r_85_l0 x).trans (laws_markEntryS_l0_eq x.1 x.2.1 x.2.2.1 _ _)
theorem lf_85 : LoopsFn Try.prog C_85 O_85 87 L_85 := LoopsFn.all (by kernel_rfl) (by decide) ⟨lo_85_l0, trivial⟩
def sa_85 : List S2 := [.one (.all 0), .one (.dat I)]
def ba_85 : List SB := [.data tEntry]
def out_85 (r : Int × (List DEntry)) : AV × Store := out1 (.one (.dat I)) [.data tEntry] (r.1, r.2, ())
theorem w_85 (x : FAr sa_85 ba_85) : evF C_85 O_85 L_85 87 sa_85 ba_85 x =
 laws_markEntrySK x.1 x.2.1 (fun r => some (out_85 r)) := by kernel_rfl
theorem sem_85 : SemF 87 sa_85 ba_85 (fun x => laws_markEntryS x.1 x.2.1) out_85 :=
 sem_of folP okP tabP (Oracle.of_ok Oracle.nil_ok) lf_85 fun x => (w_85 x).trans (laws_markEntryS_eq x.1 x.2.1 _)
noncomputable def c_85 : Con := Con.shape sa_85 ba_85 (fun x => laws_markEntryS x.1 x.2.1) out_85
theorem ok_85 : ConOk Try.prog 87 c_85 := Con.shape_ok sem_85

/-! 88 -/
def C_86 : Cfg := { T := tab, hint := fun _ => { keepR := [0, 1, 4, 5, 9], res := [4], base := 1, keepL := [(0, [0, 1, 5])], keepX := [(0, [1]), (1, [0, 1, 5])] }, mode := fun _ => .borrow }
noncomputable def O_86 : Oracle := Oracle.of []
def sh_86_l0 : List (Nat × S2) := [(0, .one (.all 0)), (1, .one (.dat I)), (5, .one (.dat I))]
def bs_86_l0 : List SB := [.data I]
def xs_86_l0 : List (Nat × S2) := [(1, .one (.dat I))]
def xb_86_l0 : List SB := [.data I]
noncomputable def lc_86_l0 : LCon := LCon.shape1 sh_86_l0 bs_86_l0 laws_markIntS_l0 (fun a => (.exit 0, encSt xs_86_l0 xb_86_l0 a))
noncomputable def L_86 : Loops := Loops.of [(0, lc_86_l0)]
theorem r_86_l0 (x : FSt sh_86_l0 bs_86_l0) : rdF C_86 O_86 L_86 88 0 0 sh_86_l0 bs_86_l0 x =
 laws_markIntS_l0K x.1 x.2.1 x.2.2.1 (fun y => some (Ex.normal, encSt sh_86_l0 bs_86_l0 y)) (fun a => some (Ex.exit 0, encSt xs_86_l0 xb_86_l0 a)) := by kernel_rfl
theorem lo_86_l0 : loF C_86 O_86 L_86 88 0 0 lc_86_l0 :=
 LCon.shape1_ok (fun a => by simp) fun x => (r_86_l0 x).trans (laws_markIntS_l0_eq x.1 x.2.1 x.2.2.1 _ _)
theorem lf_86 : LoopsFn Try.prog C_86 O_86 88 L_86 := LoopsFn.all (by kernel_rfl) (by decide) ⟨lo_86_l0, trivial⟩
def sa_86 : List S2 := [.one (.all 0), .one (.dat I)]
def ba_86 : List SB := [.data I]
def out_86 (r : Int × (List Int)) : AV × Store := out1 (.one (.dat I)) [.data I] (r.1, r.2, ())
theorem w_86 (x : FAr sa_86 ba_86) : evF C_86 O_86 L_86 88 sa_86 ba_86 x =
 laws_markIntSK x.1 x.2.1 (fun r => some (out_86 r)) := by kernel_rfl
theorem sem_86 : SemF 88 sa_86 ba_86 (fun x => laws_markIntS x.1 x.2.1) out_86 :=
 sem_of folP okP tabP (Oracle.of_ok Oracle.nil_ok) lf_86 fun x => (w_86 x).trans (laws_markIntS_eq x.1 x.2.1 _)
noncomputable def c_86 : Con := Con.shape sa_86 ba_86 (fun x => laws_markIntS x.1 x.2.1) out_86
theorem ok_86 : ConOk Try.prog 88 c_86 := Con.shape_ok sem_86

/-! 35 -/
def C_87 : Cfg := { T := tab, hint := fun _ => { mu := [2], keepR := [1, 2, 4], res := [4], base := 2 }, mode := modeOf [(87, .sub), (88, .sub)] }
noncomputable def O_87 : Oracle := Oracle.of [(87, c_85), (88, c_86)]
noncomputable def L_87 : Loops := Loops.of []
theorem lf_87 : LoopsFn Try.prog C_87 O_87 35 L_87 := LoopsFn.nil' (by kernel_rfl)
def sa_87 : List S2 := [.agg [.dat I, .dat I, .dat I, .all 0, .all 1, .dat I], .one (.dat I)]
def ba_87 : List SB := [.data tEntry, .data I]
def out_87 (r : Int × (List DEntry) × (List Int)) : AV × Store := out1 (.one (.dat I)) [.data tEntry, .data I] (r.1, r.2.1, r.2.2, ())
theorem w_87 (x : FAr sa_87 ba_87) : evF C_87 O_87 L_87 35 sa_87 ba_87 x =
 laws_markKernelK x.1 x.2.1 x.2.2.1 x.2.2.2.1 x.2.2.2.2.1 x.2.2.2.2.2.1 x.2.2.2.2.2.2.1 (fun r => some (out_87 r)) := by kernel_rfl
theorem sem_87 : SemF 35 sa_87 ba_87 (fun x => laws_markKernel x.1 x.2.1 x.2.2.1 x.2.2.2.1 x.2.2.2.2.1 x.2.2.2.2.2.1 x.2.2.2.2.2.2.1) out_87 :=
 sem_of folP okP tabP (Oracle.of_ok (Oracle.cons_ok ok_85 (Oracle.cons_ok ok_86 Oracle.nil_ok))) lf_87 fun x => (w_87 x).trans (laws_markKernel_eq x.1 x.2.1 x.2.2.1 x.2.2.2.1 x.2.2.2.2.1 x.2.2.2.2.2.1 x.2.2.2.2.2.2.1 _)
noncomputable def c_87 : Con := Con.shape sa_87 ba_87 (fun x => laws_markKernel x.1 x.2.1 x.2.2.1 x.2.2.2.1 x.2.2.2.2.1 x.2.2.2.2.2.1 x.2.2.2.2.2.2.1) out_87
theorem ok_87 : ConOk Try.prog 35 c_87 := Con.shape_ok sem_87

/-! 89 -/
def C_88 : Cfg := { T := tab, hint := fun _ => { keepR := [0, 1, 4, 5, 9, 19, 29, 39, 49, 58, 69], res := [4], keepL := [(0, [0, 1, 5])], keepX := [(0, [1]), (1, [0, 1, 5])] }, mode := fun _ => .borrow }
noncomputable def O_88 : Oracle := Oracle.of []
def sh_88_l0 : List (Nat × S2) := [(0, .one (.dat (.sl tEntry))), (1, .one (.dat I)), (5, .one (.dat I))]
def bs_88_l0 : List SB := []
def xs_88_l0 : List (Nat × S2) := [(1, .one (.dat I))]
def xb_88_l0 : List SB := []
def ys_88_l0 : List (Nat × S2) := [(4, .one (.dat I))]
def yb_88_l0 : List SB := []
noncomputable def lc_88_l0 : LCon := LCon.shape sh_88_l0 bs_88_l0 laws_heldEntryS_l0 (fun a => (.exit 0, encSt xs_88_l0 xb_88_l0 a)) (fun b => encSt ys_88_l0 yb_88_l0 b)
noncomputable def L_88 : Loops := Loops.of [(0, lc_88_l0)]
theorem r_88_l0 (x : FSt sh_88_l0 bs_88_l0) : rdF C_88 O_88 L_88 89 0 0 sh_88_l0 bs_88_l0 x =
 laws_heldEntryS_l0K x.1 x.2.1 x.2.2.1 (fun y => some (Ex.normal, encSt sh_88_l0 bs_88_l0 y)) (fun a => some (Ex.exit 0, encSt xs_88_l0 xb_88_l0 a)) (fun b => some (Ex.ret, encSt ys_88_l0 yb_88_l0 b)) := by kernel_rfl
theorem lo_88_l0 : loF C_88 O_88 L_88 89 0 0 lc_88_l0 :=
 LCon.shape_ok (fun a => by simp) fun x => (r_88_l0 x).trans (laws_heldEntryS_l0_eq x.1 x.2.1 x.2.2.1 _ _ _)
theorem lf_88 : LoopsFn Try.prog C_88 O_88 89 L_88 := LoopsFn.all (by kernel_rfl) (by decide) ⟨lo_88_l0, trivial⟩
def sa_88 : List S2 := [.one (.dat (.sl tEntry)), .one (.dat I)]
def ba_88 : List SB := []
def out_88 (r : Int) : AV × Store := out1 (.one (.dat I)) [] (r, ())
theorem w_88 (x : FAr sa_88 ba_88) : evF C_88 O_88 L_88 89 sa_88 ba_88 x =
 laws_heldEntrySK x.1 x.2.1 (fun r => some (out_88 r)) := by kernel_rfl
theorem sem_88 : SemF 89 sa_88 ba_88 (fun x => laws_heldEntryS x.1 x.2.1) out_88 :=
 sem_of folP okP tabP (Oracle.of_ok Oracle.nil_ok) lf_88 fun x => (w_88 x).trans (laws_heldEntryS_eq x.1 x.2.1 _)
noncomputable def c_88 : Con := Con.shape sa_88 ba_88 (fun x => laws_heldEntryS x.1 x.2.1) out_88
theorem ok_88 : ConOk Try.prog 89 c_88 := Con.shape_ok sem_88

/-! 90 -/
def C_89 : Cfg := { T := tab, hint := fun _ => { keepR := [0, 1, 4, 5, 9, 17], res := [4], keepL := [(0, [0, 1, 5])], keepX := [(0, [1]), (1, [0, 1, 5])] }, mode := fun _ => .borrow }
noncomputable def O_89 : Oracle := Oracle.of []
def sh_89_l0 : List (Nat × S2) := [(0, .one (.dat (.sl I))), (1, .one (.dat I)), (5, .one (.dat I))]
def bs_89_l0 : List SB := []
def xs_89_l0 : List (Nat × S2) := [(1, .one (.dat I))]
def xb_89_l0 : List SB := []
def ys_89_l0 : List (Nat × S2) := [(4, .one (.dat I))]
def yb_89_l0 : List SB := []
noncomputable def lc_89_l0 : LCon := LCon.shape sh_89_l0 bs_89_l0 laws_heldIntS_l0 (fun a => (.exit 0, encSt xs_89_l0 xb_89_l0 a)) (fun b => encSt ys_89_l0 yb_89_l0 b)
noncomputable def L_89 : Loops := Loops.of [(0, lc_89_l0)]
theorem r_89_l0 (x : FSt sh_89_l0 bs_89_l0) : rdF C_89 O_89 L_89 90 0 0 sh_89_l0 bs_89_l0 x =
 laws_heldIntS_l0K x.1 x.2.1 x.2.2.1 (fun y => some (Ex.normal, encSt sh_89_l0 bs_89_l0 y)) (fun a => some (Ex.exit 0, encSt xs_89_l0 xb_89_l0 a)) (fun b => some (Ex.ret, encSt ys_89_l0 yb_89_l0 b)) := by kernel_rfl
theorem lo_89_l0 : loF C_89 O_89 L_89 90 0 0 lc_89_l0 :=
 LCon.shape_ok (fun a => by simp) fun x => (r_89_l0 x).trans (laws_heldIntS_l0_eq x.1 x.2.1 x.2.2.1 _ _ _)
theorem lf_89 : LoopsFn Try.prog C_89 O_89 90 L_89 := LoopsFn.all (by kernel_rfl) (by decide) ⟨lo_89_l0, trivial⟩
def sa_89 : List S2 := [.one (.dat (.sl I)), .one (.dat I)]
def ba_89 : List SB := []
def out_89 (r : Int) : AV × Store := out1 (.one (.dat I)) [] (r, ())
theorem w_89 (x : FAr sa_89 ba_89) : evF C_89 O_89 L_89 90 sa_89 ba_89 x =
 laws_heldIntSK x.1 x.2.1 (fun r => some (out_89 r)) := by kernel_rfl
theorem sem_89 : SemF 90 sa_89 ba_89 (fun x => laws_heldIntS x.1 x.2.1) out_89 :=
 sem_of folP okP tabP (Oracle.of_ok Oracle.nil_ok) lf_89 fun x => (w_89 x).trans (laws_heldIntS_eq x.1 x.2.1 _)
noncomputable def c_89 : Con := Con.shape sa_89 ba_89 (fun x => laws_heldIntS x.1 x.2.1) out_89
theorem ok_89 : ConOk Try.prog 90 c_89 := Con.shape_ok sem_89

/-! 36 -/
def C_90 : Cfg := { T := tab, hint := fun _ => { keepR := [1, 2, 4, 10, 16], res := [4] }, mode := fun _ => .borrow }
noncomputable def O_90 : Oracle := Oracle.of [(89, c_88), (90, c_89)]
noncomputable def L_90 : Loops := Loops.of []
theorem lf_90 : LoopsFn Try.prog C_90 O_90 36 L_90 := LoopsFn.nil' (by kernel_rfl)
def sa_90 : List S2 := [.one (.dat tKernel), .one (.dat I)]
def ba_90 : List SB := []
def out_90 (r : Int) : AV × Store := out1 (.one (.dat I)) [] (r, ())
theorem w_90 (x : FAr sa_90 ba_90) : evF C_90 O_90 L_90 36 sa_90 ba_90 x =
 laws_heldKernelK x.1 x.2.1 (fun r => some (out_90 r)) := by kernel_rfl
theorem sem_90 : SemF 36 sa_90 ba_90 (fun x => laws_heldKernel x.1 x.2.1) out_90 :=
 sem_of folP okP tabP (Oracle.of_ok (Oracle.cons_ok ok_88 (Oracle.cons_ok ok_89 Oracle.nil_ok))) lf_90 fun x => (w_90 x).trans (laws_heldKernel_eq x.1 x.2.1 _)
noncomputable def c_90 : Con := Con.shape sa_90 ba_90 (fun x => laws_heldKernel x.1 x.2.1) out_90
theorem ok_90 : ConOk Try.prog 36 c_90 := Con.shape_ok sem_90

/-! 5 -/
def C_91 : Cfg := { T := tab, hint := fun _ => { mu := [5, 6, 9, 15], keepR := [0, 1, 4, 5, 6, 7, 8, 9, 19, 27, 30, 37, 42, 45], res := [4] }, mode := modeOf [(35, .sub)] }
noncomputable def O_91 : Oracle := Oracle.of [(32, c_3), (33, c_78), (34, c_84), (35, c_87), (36, c_90)]
noncomputable def L_91 : Loops := Loops.of []
theorem lf_91 : LoopsFn Try.prog C_91 O_91 5 L_91 := LoopsFn.nil' (by kernel_rfl)
def sa_91 : List S2 := [.one (.dat I), .one (.dat I)]
def ba_91 : List SB := []
def out_91 (r : Bool) : AV × Store := out1 (.one (.dat .bool)) [] (r, ())
theorem w_91 (x : FAr sa_91 ba_91) : evF C_91 O_91 L_91 5 sa_91 ba_91 x =
 laws_FnExactNewKernelK x.1 x.2.1 (fun r => some (out_91 r)) := by kernel_rfl
theorem sem_91 : SemF 5 sa_91 ba_91 (fun x => laws_FnExactNewKernel x.1 x.2.1) out_91 :=
 sem_of folP okP tabP (Oracle.of_ok (Oracle.cons_ok ok_3 (Oracle.cons_ok ok_78 (Oracle.cons_ok ok_84 (Oracle.cons_ok ok_87 (Oracle.cons_ok ok_90 Oracle.nil_ok)))))) lf_91 fun x => (w_91 x).trans (laws_FnExactNewKernel_eq x.1 x.2.1 _)
noncomputable def c_91 : Con := Con.shape sa_91 ba_91 (fun x => laws_FnExactNewKernel x.1 x.2.1) out_91
theorem ok_91 : ConOk Try.prog 5 c_91 := Con.shape_ok sem_91

/-! 48 -/
def C_92 : Cfg := { T := tab, hint := fun _ => { mu := [2, 5, 7], keepR := [0, 2, 3, 4, 5], res := [2, 3], order := [(3, [(1, .read), (2, .read), (0, .aside [1, 2, 3]), (3, .forced), (4, .forced), (5, .forced)])] }, mode := modeOf [(52, .sub), (53, .sub)] }
noncomputable def O_92 : Oracle := Oracle.of [(51, c_0), (52, c_31), (53, c_32)]
noncomputable def L_92 : Loops := Loops.of []
theorem lf_92 : LoopsFn Try.prog C_92 O_92 48 L_92 := LoopsFn.nil' (by kernel_rfl)
def sa_92 : List S2 := [.one (.dat (.sl (.int .u8)))]
def ba_92 : List SB := []
def out_92 (r : Int × Int × Int × Int × Int × (List DEntry) × (List Int)) : AV × Store := outT [.agg [.dat I, .dat I, .dat I, .all 0, .all 1, .dat I], .one (.dat I)] [.data tEntry, .data I] (r.1, r.2.1, r.2.2.1, r.2.2.2.1, r.2.2.2.2.1, r.2.2.2.2.2.1, r.2.2.2.2.2.2, ())
theorem w_92 (x : FAr sa_92 ba_92) : evF C_92 O_92 L_92 48 sa_92 ba_92 x =
 spec_DrawSysDeleteK x.1 (fun r => some (out_92 r)) := by kernel_rfl
theorem sem_92 : SemF 48 sa_92 ba_92 (fun x => spec_DrawSysDelete x.1) out_92 :=
 sem_of folP okP tabP (Oracle.of_ok (Oracle.cons_ok ok_0 (Oracle.cons_ok ok_31 (Oracle.cons_ok ok_32 Oracle.nil_ok)))) lf_92 fun x => (w_92 x).trans (spec_DrawSysDelete_eq x.1 _)
noncomputable def c_92 : Con := Con.shape sa_92 ba_92 (fun x => spec_DrawSysDelete x.1) out_92
theorem ok_92 : ConOk Try.prog 48 c_92 := Con.shape_ok sem_92

/-! 37 -/
def C_93 : Cfg := { T := tab, hint := fun _ => { mu := [2, 5], keepR := [0, 2, 3], res := [2, 3] }, mode := fun _ => .borrow }
noncomputable def O_93 : Oracle := Oracle.of [(48, c_92)]
noncomputable def L_93 : Loops := Loops.of []
theorem lf_93 : LoopsFn Try.prog C_93 O_93 37 L_93 := LoopsFn.nil' (by kernel_rfl)
def sa_93 : List S2 := [.one (.dat (.sl (.int .u8)))]
def ba_93 : List SB := []
def out_93 (r : Int × Int × Int × Int × Int × (List DEntry) × (List Int)) : AV × Store := outT [.agg [.dat I, .dat I, .dat I, .all 0, .all 1, .dat I], .one (.dat I)] [.data tEntry, .data I] (r.1, r.2.1, r.2.2.1, r.2.2.2.1, r.2.2.2.2.1, r.2.2.2.2.2.1, r.2.2.2.2.2.2, ())
theorem w_93 (x : FAr sa_93 ba_93) : evF C_93 O_93 L_93 37 sa_93 ba_93 x =
 spec_DrawSysRevokeK x.1 (fun r => some (out_93 r)) := by kernel_rfl
theorem sem_93 : SemF 37 sa_93 ba_93 (fun x => spec_DrawSysRevoke x.1) out_93 :=
 sem_of folP okP tabP (Oracle.of_ok (Oracle.cons_ok ok_92 Oracle.nil_ok)) lf_93 fun x => (w_93 x).trans (spec_DrawSysRevoke_eq x.1 _)
noncomputable def c_93 : Con := Con.shape sa_93 ba_93 (fun x => spec_DrawSysRevoke x.1) out_93
theorem ok_93 : ConOk Try.prog 37 c_93 := Con.shape_ok sem_93

/-! 104 -/
def C_94 : Cfg := { T := tab, hint := fun _ => { mu := [6, 10, 52], keepR := [0, 1, 4, 5, 6, 7, 19, 45], res := [4], keepL := [(0, [0, 5, 6, 7])], keepX := [(0, [6]), (1, [0, 5, 6, 7])] }, mode := modeOf [(132, .sub)] }
noncomputable def O_94 : Oracle := Oracle.of [(132, c_54)]
def sh_94_l0 : List (Nat × S2) := [(0, .one (.dat (.sl tEntry))), (5, .one (.all 0)), (6, .one (.all 1)), (7, .one (.dat I))]
def bs_94_l0 : List SB := [.data .bool, .data I]
def xs_94_l0 : List (Nat × S2) := [(6, .one (.all 0))]
def xb_94_l0 : List SB := [.data I]
noncomputable def lc_94_l0 : LCon := LCon.shape1 sh_94_l0 bs_94_l0 impl_descendants_l0 (fun a => (.exit 0, encSt xs_94_l0 xb_94_l0 a))
noncomputable def L_94 : Loops := Loops.of [(0, lc_94_l0)]
theorem r_94_l0 (x : FSt sh_94_l0 bs_94_l0) : rdF C_94 O_94 L_94 104 0 0 sh_94_l0 bs_94_l0 x =
 impl_descendants_l0K x.1 x.2.1 x.2.2.1 x.2.2.2.1 (fun y => some (Ex.normal, encSt sh_94_l0 bs_94_l0 y)) (fun a => some (Ex.exit 0, encSt xs_94_l0 xb_94_l0 a)) := by kernel_rfl
theorem lo_94_l0 : loF C_94 O_94 L_94 104 0 0 lc_94_l0 :=
 LCon.shape1_ok (fun a => by simp) fun x => (r_94_l0 x).trans (impl_descendants_l0_eq x.1 x.2.1 x.2.2.1 x.2.2.2.1 _ _)
theorem lf_94 : LoopsFn Try.prog C_94 O_94 104 L_94 := LoopsFn.all (by kernel_rfl) (by decide) ⟨lo_94_l0, trivial⟩
def sa_94 : List S2 := [.one (.dat (.sl tEntry)), .one (.dat I)]
def ba_94 : List SB := []
def out_94 (r : (List Int)) : AV × Store := out1 (.one (.all 0)) [.data I] (r, ())
theorem w_94 (x : FAr sa_94 ba_94) : evF C_94 O_94 L_94 104 sa_94 ba_94 x =
 impl_descendantsK x.1 x.2.1 (fun r => some (out_94 r)) := by kernel_rfl
theorem sem_94 : SemF 104 sa_94 ba_94 (fun x => impl_descendants x.1 x.2.1) out_94 :=
 sem_of folP okP tabP (Oracle.of_ok (Oracle.cons_ok ok_54 Oracle.nil_ok)) lf_94 fun x => (w_94 x).trans (impl_descendants_eq x.1 x.2.1 _)
noncomputable def c_94 : Con := Con.shape sa_94 ba_94 (fun x => impl_descendants x.1 x.2.1) out_94
theorem ok_94 : ConOk Try.prog 104 c_94 := Con.shape_ok sem_94

/-! 127 -/
def C_95 : Cfg := { T := tab, hint := fun _ => { mu := [9], keepR := [0, 1, 4, 5, 7, 10, 11, 12, 13], res := [4], keepL := [(0, [5, 10, 11, 12])], keepX := [(0, [5]), (1, [5, 10, 11, 12])] }, mode := fun _ => .borrow }
noncomputable def O_95 : Oracle := Oracle.of [(80, c_52)]
def sh_95_l0 : List (Nat × S2) := [(5, .one (.all 0)), (10, .one (.dat (.sl I))), (11, .one (.dat I)), (12, .one (.dat I))]
def bs_95_l0 : List SB := [.data tEntry]
def xs_95_l0 : List (Nat × S2) := [(5, .one (.all 0))]
def xb_95_l0 : List SB := [.data tEntry]
noncomputable def lc_95_l0 : LCon := LCon.shape1 sh_95_l0 bs_95_l0 impl_removed_l0 (fun a => (.exit 0, encSt xs_95_l0 xb_95_l0 a))
noncomputable def L_95 : Loops := Loops.of [(0, lc_95_l0)]
theorem r_95_l0 (x : FSt sh_95_l0 bs_95_l0) : rdF C_95 O_95 L_95 127 0 0 sh_95_l0 bs_95_l0 x =
 impl_removed_l0K x.1 x.2.1 x.2.2.1 x.2.2.2.1 (fun y => some (Ex.normal, encSt sh_95_l0 bs_95_l0 y)) (fun a => some (Ex.exit 0, encSt xs_95_l0 xb_95_l0 a)) := by kernel_rfl
theorem lo_95_l0 : loF C_95 O_95 L_95 127 0 0 lc_95_l0 :=
 LCon.shape1_ok (fun a => by simp) fun x => (r_95_l0 x).trans (impl_removed_l0_eq x.1 x.2.1 x.2.2.1 x.2.2.2.1 _ _)
theorem lf_95 : LoopsFn Try.prog C_95 O_95 127 L_95 := LoopsFn.all (by kernel_rfl) (by decide) ⟨lo_95_l0, trivial⟩
def sa_95 : List S2 := [.one (.dat (.sl tEntry)), .one (.dat (.sl I))]
def ba_95 : List SB := []
def out_95 (r : (List DEntry)) : AV × Store := out1 (.one (.all 0)) [.data tEntry] (r, ())
theorem w_95 (x : FAr sa_95 ba_95) : evF C_95 O_95 L_95 127 sa_95 ba_95 x =
 impl_removedK x.1 x.2.1 (fun r => some (out_95 r)) := by kernel_rfl
theorem sem_95 : SemF 127 sa_95 ba_95 (fun x => impl_removed x.1 x.2.1) out_95 :=
 sem_of folP okP tabP (Oracle.of_ok (Oracle.cons_ok ok_52 Oracle.nil_ok)) lf_95 fun x => (w_95 x).trans (impl_removed_eq x.1 x.2.1 _)
noncomputable def c_95 : Con := Con.shape sa_95 ba_95 (fun x => impl_removed x.1 x.2.1) out_95
theorem ok_95 : ConOk Try.prog 127 c_95 := Con.shape_ok sem_95

/-! 92 -/
def C_96 : Cfg := { T := tab, hint := fun _ => { mu := [4, 13], keepR := [0, 1, 4, 8], res := [4] }, mode := fun _ => .borrow }
noncomputable def O_96 : Oracle := Oracle.of [(103, c_59), (104, c_94), (127, c_95)]
noncomputable def L_96 : Loops := Loops.of []
theorem lf_96 : LoopsFn Try.prog C_96 O_96 92 L_96 := LoopsFn.nil' (by kernel_rfl)
def sa_96 : List S2 := [.one (.dat (.sl tEntry)), .one (.dat I)]
def ba_96 : List SB := []
def out_96 (r : (List DEntry)) : AV × Store := out1 (.one (.all 0)) [.data tEntry] (r, ())
theorem w_96 (x : FAr sa_96 ba_96) : evF C_96 O_96 L_96 92 sa_96 ba_96 x =
 impl_RevokeCapK x.1 x.2.1 (fun r => some (out_96 r)) := by kernel_rfl
theorem sem_96 : SemF 92 sa_96 ba_96 (fun x => impl_RevokeCap x.1 x.2.1) out_96 :=
 sem_of folP okP tabP (Oracle.of_ok (Oracle.cons_ok ok_59 (Oracle.cons_ok ok_94 (Oracle.cons_ok ok_95 Oracle.nil_ok)))) lf_96 fun x => (w_96 x).trans (impl_RevokeCap_eq x.1 x.2.1 _)
noncomputable def c_96 : Con := Con.shape sa_96 ba_96 (fun x => impl_RevokeCap x.1 x.2.1) out_96
theorem ok_96 : ConOk Try.prog 92 c_96 := Con.shape_ok sem_96

/-! 126 -/
def C_97 : Cfg := { T := tab, hint := fun _ => { keepR := [0, 2, 3, 7, 8, 9, 10, 25], res := [], base := 4, keepL := [(0, [0, 7, 8, 9])], keepX := [(0, []), (1, [0, 7, 8, 9])] }, mode := fun _ => .borrow }
noncomputable def O_97 : Oracle := Oracle.of []
def sh_97_l0 : List (Nat × S2) := [(0, .one (.ptr 3 0 0)), (7, .one (.all 2)), (8, .one (.dat I)), (9, .one (.dat I))]
def bs_97_l0 : List SB := [.var [.dat I, .dat I, .dat I, .e0 tEntry, .e0 I, .dat I], .data tEntry, .data I, .var [.dat I, .dat I, .dat I, .dat (.sl tEntry), .all 2, .dat I]]
def xs_97_l0 : List (Nat × S2) := []
def xb_97_l0 : List SB := [.var [.dat I, .dat I, .dat I, .e0 tEntry, .e0 I, .dat I], .data tEntry, .data I, .var [.dat I, .dat I, .dat I, .dat (.sl tEntry), .all 2, .dat I]]
noncomputable def lc_97_l0 : LCon := LCon.shape1 sh_97_l0 bs_97_l0 impl_Kernel_clear_l0 (fun a => (.exit 0, encSt xs_97_l0 xb_97_l0 a))
noncomputable def L_97 : Loops := Loops.of [(0, lc_97_l0)]
theorem r_97_l0 (x : FSt sh_97_l0 bs_97_l0) : rdF C_97 O_97 L_97 126 0 0 sh_97_l0 bs_97_l0 x =
 impl_Kernel_clear_l0K x.1 x.2.1 x.2.2.1 x.2.2.2.1 x.2.2.2.2.1 x.2.2.2.2.2.1 x.2.2.2.2.2.2.1 x.2.2.2.2.2.2.2.1 x.2.2.2.2.2.2.2.2.1 x.2.2.2.2.2.2.2.2.2.1 x.2.2.2.2.2.2.2.2.2.2.1 x.2.2.2.2.2.2.2.2.2.2.2.1 x.2.2.2.2.2.2.2.2.2.2.2.2.1 (fun y => some (Ex.normal, encSt sh_97_l0 bs_97_l0 y)) (fun a => some (Ex.exit 0, encSt xs_97_l0 xb_97_l0 a)) := by kernel_rfl
theorem lo_97_l0 : loF C_97 O_97 L_97 126 0 0 lc_97_l0 :=
 LCon.shape1_ok (fun a => by simp) fun x => (r_97_l0 x).trans (impl_Kernel_clear_l0_eq x.1 x.2.1 x.2.2.1 x.2.2.2.1 x.2.2.2.2.1 x.2.2.2.2.2.1 x.2.2.2.2.2.2.1 x.2.2.2.2.2.2.2.1 x.2.2.2.2.2.2.2.2.1 x.2.2.2.2.2.2.2.2.2.1 x.2.2.2.2.2.2.2.2.2.2.1 x.2.2.2.2.2.2.2.2.2.2.2.1 x.2.2.2.2.2.2.2.2.2.2.2.2.1 _ _)
theorem lf_97 : LoopsFn Try.prog C_97 O_97 126 L_97 := LoopsFn.all (by kernel_rfl) (by decide) ⟨lo_97_l0, trivial⟩
def sa_97 : List S2 := [.one (.ptr 3 0 0)]
def ba_97 : List SB := [.var [.dat I, .dat I, .dat I, .e0 tEntry, .e0 I, .dat I], .data tEntry, .data I, .var [.dat I, .dat I, .dat I, .dat (.sl tEntry), .all 2, .dat I]]
def out_97 (r : Int × Int × Int × Int × (List DEntry) × (List Int) × Int × Int × Int × (List DEntry) × Int) : AV × Store := outT [] [.var [.dat I, .dat I, .dat I, .e0 tEntry, .e0 I, .dat I], .data tEntry, .data I, .var [.dat I, .dat I, .dat I, .dat (.sl tEntry), .all 2, .dat I]] (r.1, r.2.1, r.2.2.1, r.2.2.2.1, r.2.2.2.2.1, r.2.2.2.2.2.1, r.2.2.2.2.2.2.1, r.2.2.2.2.2.2.2.1, r.2.2.2.2.2.2.2.2.1, r.2.2.2.2.2.2.2.2.2.1, r.2.2.2.2.2.2.2.2.2.2, ())
theorem w_97 (x : FAr sa_97 ba_97) : evF C_97 O_97 L_97 126 sa_97 ba_97 x =
 impl_Kernel_clearK x.1 x.2.1 x.2.2.1 x.2.2.2.1 x.2.2.2.2.1 x.2.2.2.2.2.1 x.2.2.2.2.2.2.1 x.2.2.2.2.2.2.2.1 x.2.2.2.2.2.2.2.2.1 x.2.2.2.2.2.2.2.2.2.1 x.2.2.2.2.2.2.2.2.2.2.1 (fun r => some (out_97 r)) := by kernel_rfl
theorem sem_97 : SemF 126 sa_97 ba_97 (fun x => impl_Kernel_clear x.1 x.2.1 x.2.2.1 x.2.2.2.1 x.2.2.2.2.1 x.2.2.2.2.2.1 x.2.2.2.2.2.2.1 x.2.2.2.2.2.2.2.1 x.2.2.2.2.2.2.2.2.1 x.2.2.2.2.2.2.2.2.2.1 x.2.2.2.2.2.2.2.2.2.2.1) out_97 :=
 sem_of folP okP tabP (Oracle.of_ok Oracle.nil_ok) lf_97 fun x => (w_97 x).trans (impl_Kernel_clear_eq x.1 x.2.1 x.2.2.1 x.2.2.2.1 x.2.2.2.2.1 x.2.2.2.2.2.1 x.2.2.2.2.2.2.1 x.2.2.2.2.2.2.2.1 x.2.2.2.2.2.2.2.2.1 x.2.2.2.2.2.2.2.2.2.1 x.2.2.2.2.2.2.2.2.2.2.1 _)
noncomputable def c_97 : Con := Con.shape sa_97 ba_97 (fun x => impl_Kernel_clear x.1 x.2.1 x.2.2.1 x.2.2.2.1 x.2.2.2.2.1 x.2.2.2.2.2.1 x.2.2.2.2.2.2.1 x.2.2.2.2.2.2.2.1 x.2.2.2.2.2.2.2.2.1 x.2.2.2.2.2.2.2.2.2.1 x.2.2.2.2.2.2.2.2.2.2.1) out_97
theorem ok_97 : ConOk Try.prog 126 c_97 := Con.shape_ok sem_97

/-! 126 -/
def C_98 : Cfg := { T := tab, hint := fun _ => { keepR := [0, 2, 3, 7, 8, 9, 10, 25], res := [], base := 5, keepL := [(0, [0, 7, 8, 9])], keepX := [(0, []), (1, [0, 7, 8, 9])] }, mode := fun _ => .borrow }
noncomputable def O_98 : Oracle := Oracle.of []
def sh_98_l0 : List (Nat × S2) := [(0, .one (.ptr 3 0 0)), (7, .one (.all 2)), (8, .one (.dat I)), (9, .one (.dat I))]
def bs_98_l0 : List SB := [.var [.dat I, .dat I, .dat I, .e0 tEntry, .e0 I, .dat I], .data tEntry, .data I, .var [.dat I, .dat I, .dat I, .all 4, .all 2, .dat I], .data tEntry]
def xs_98_l0 : List (Nat × S2) := []
def xb_98_l0 : List SB := [.var [.dat I, .dat I, .dat I, .e0 tEntry, .e0 I, .dat I], .data tEntry, .data I, .var [.dat I, .dat I, .dat I, .all 4, .all 2, .dat I], .data tEntry]
noncomputable def lc_98_l0 : LCon := LCon.shape1 sh_98_l0 bs_98_l0 impl_Kernel_clear_v2_l0 (fun a => (.exit 0, encSt xs_98_l0 xb_98_l0 a))
noncomputable def L_98 : Loops := Loops.of [(0, lc_98_l0)]
theorem r_98_l0 (x : FSt sh_98_l0 bs_98_l0) : rdF C_98 O_98 L_98 126 0 0 sh_98_l0 bs_98_l0 x =
 impl_Kernel_clear_v2_l0K x.1 x.2.1 x.2.2.1 x.2.2.2.1 x.2.2.2.2.1 x.2.2.2.2.2.1 x.2.2.2.2.2.2.1 x.2.2.2.2.2.2.2.1 x.2.2.2.2.2.2.2.2.1 x.2.2.2.2.2.2.2.2.2.1 x.2.2.2.2.2.2.2.2.2.2.1 x.2.2.2.2.2.2.2.2.2.2.2.1 x.2.2.2.2.2.2.2.2.2.2.2.2.1 (fun y => some (Ex.normal, encSt sh_98_l0 bs_98_l0 y)) (fun a => some (Ex.exit 0, encSt xs_98_l0 xb_98_l0 a)) := by kernel_rfl
theorem lo_98_l0 : loF C_98 O_98 L_98 126 0 0 lc_98_l0 :=
 LCon.shape1_ok (fun a => by simp) fun x => (r_98_l0 x).trans (impl_Kernel_clear_v2_l0_eq x.1 x.2.1 x.2.2.1 x.2.2.2.1 x.2.2.2.2.1 x.2.2.2.2.2.1 x.2.2.2.2.2.2.1 x.2.2.2.2.2.2.2.1 x.2.2.2.2.2.2.2.2.1 x.2.2.2.2.2.2.2.2.2.1 x.2.2.2.2.2.2.2.2.2.2.1 x.2.2.2.2.2.2.2.2.2.2.2.1 x.2.2.2.2.2.2.2.2.2.2.2.2.1 _ _)
theorem lf_98 : LoopsFn Try.prog C_98 O_98 126 L_98 := LoopsFn.all (by kernel_rfl) (by decide) ⟨lo_98_l0, trivial⟩
def sa_98 : List S2 := [.one (.ptr 3 0 0)]
def ba_98 : List SB := [.var [.dat I, .dat I, .dat I, .e0 tEntry, .e0 I, .dat I], .data tEntry, .data I, .var [.dat I, .dat I, .dat I, .all 4, .all 2, .dat I], .data tEntry]
def out_98 (r : Int × Int × Int × Int × (List DEntry) × (List Int) × Int × Int × Int × Int × (List DEntry)) : AV × Store := outT [] [.var [.dat I, .dat I, .dat I, .e0 tEntry, .e0 I, .dat I], .data tEntry, .data I, .var [.dat I, .dat I, .dat I, .all 4, .all 2, .dat I], .data tEntry] (r.1, r.2.1, r.2.2.1, r.2.2.2.1, r.2.2.2.2.1, r.2.2.2.2.2.1, r.2.2.2.2.2.2.1, r.2.2.2.2.2.2.2.1, r.2.2.2.2.2.2.2.2.1, r.2.2.2.2.2.2.2.2.2.1, r.2.2.2.2.2.2.2.2.2.2, ())
theorem w_98 (x : FAr sa_98 ba_98) : evF C_98 O_98 L_98 126 sa_98 ba_98 x =
 impl_Kernel_clear_v2K x.1 x.2.1 x.2.2.1 x.2.2.2.1 x.2.2.2.2.1 x.2.2.2.2.2.1 x.2.2.2.2.2.2.1 x.2.2.2.2.2.2.2.1 x.2.2.2.2.2.2.2.2.1 x.2.2.2.2.2.2.2.2.2.1 x.2.2.2.2.2.2.2.2.2.2.1 (fun r => some (out_98 r)) := by kernel_rfl
theorem sem_98 : SemF 126 sa_98 ba_98 (fun x => impl_Kernel_clear_v2 x.1 x.2.1 x.2.2.1 x.2.2.2.1 x.2.2.2.2.1 x.2.2.2.2.2.1 x.2.2.2.2.2.2.1 x.2.2.2.2.2.2.2.1 x.2.2.2.2.2.2.2.2.1 x.2.2.2.2.2.2.2.2.2.1 x.2.2.2.2.2.2.2.2.2.2.1) out_98 :=
 sem_of folP okP tabP (Oracle.of_ok Oracle.nil_ok) lf_98 fun x => (w_98 x).trans (impl_Kernel_clear_v2_eq x.1 x.2.1 x.2.2.1 x.2.2.2.1 x.2.2.2.2.1 x.2.2.2.2.2.1 x.2.2.2.2.2.2.1 x.2.2.2.2.2.2.2.1 x.2.2.2.2.2.2.2.2.1 x.2.2.2.2.2.2.2.2.2.1 x.2.2.2.2.2.2.2.2.2.2.1 _)
noncomputable def c_98 : Con := Con.shape sa_98 ba_98 (fun x => impl_Kernel_clear_v2 x.1 x.2.1 x.2.2.1 x.2.2.2.1 x.2.2.2.2.1 x.2.2.2.2.2.1 x.2.2.2.2.2.2.1 x.2.2.2.2.2.2.2.1 x.2.2.2.2.2.2.2.2.1 x.2.2.2.2.2.2.2.2.2.1 x.2.2.2.2.2.2.2.2.2.2.1) out_98
theorem ok_98 : ConOk Try.prog 126 c_98 := Con.shape_ok sem_98

/-! 91 -/
def C_99 : Cfg := { T := tab, hint := fun _ => { mu := [6, 8, 14, 28], keepR := [1, 2, 3, 6, 7, 8, 11, 18], res := [6, 7], order := [(6, tns .read 0 5 ++ tns .forced 5 6)], fillR := true }, mode := modeOf [(126, .whole)] }
noncomputable def O_99 : Oracle := Oracle.of [(26, c_49), (56, c_56), (57, c_57), (92, c_96), (126, c_98)]
noncomputable def L_99 : Loops := Loops.of []
theorem lf_99 : LoopsFn Try.prog C_99 O_99 91 L_99 := LoopsFn.nil' (by kernel_rfl)
def sa_99 : List S2 := [.one (.dat tKernel), .one (.dat I), .fn 92 []]
def ba_99 : List SB := []
def out_99 (r : Int × Int × Int × Int × Int × (List DEntry) × (List Int)) : AV × Store := outT [.agg [.dat I, .dat I, .dat I, .all 0, .all 1, .dat I], .one (.dat I)] [.data tEntry, .data I] (r.1, r.2.1, r.2.2.1, r.2.2.2.1, r.2.2.2.2.1, r.2.2.2.2.2.1, r.2.2.2.2.2.2, ())
theorem w_99 (x : FAr sa_99 ba_99) : evF C_99 O_99 L_99 91 sa_99 ba_99 x =
 impl_removingK x.1 x.2.1 (fun r => some (out_99 r)) := by kernel_rfl
theorem sem_99 : SemF 91 sa_99 ba_99 (fun x => impl_removing x.1 x.2.1) out_99 :=
 sem_of folP okP tabP (Oracle.of_ok (Oracle.cons_ok ok_49 (Oracle.cons_ok ok_56 (Oracle.cons_ok ok_57 (Oracle.cons_ok ok_96 (Oracle.cons_ok ok_98 Oracle.nil_ok)))))) lf_99 fun x => (w_99 x).trans (impl_removing_eq x.1 x.2.1 _)
noncomputable def c_99 : Con := Con.shape sa_99 ba_99 (fun x => impl_removing x.1 x.2.1) out_99
theorem ok_99 : ConOk Try.prog 91 c_99 := Con.shape_ok sem_99

/-! 38 -/
def C_100 : Cfg := { T := tab, hint := fun _ => { mu := [4, 8], keepR := [1, 2, 4, 5], res := [4, 5] }, mode := fun _ => .borrow }
noncomputable def O_100 : Oracle := Oracle.of [(91, c_99)]
noncomputable def L_100 : Loops := Loops.of []
theorem lf_100 : LoopsFn Try.prog C_100 O_100 38 L_100 := LoopsFn.nil' (by kernel_rfl)
def sa_100 : List S2 := [.one (.dat tKernel), .one (.dat I)]
def ba_100 : List SB := []
def out_100 (r : Int × Int × Int × Int × Int × (List DEntry) × (List Int)) : AV × Store := outT [.agg [.dat I, .dat I, .dat I, .all 0, .all 1, .dat I], .one (.dat I)] [.data tEntry, .data I] (r.1, r.2.1, r.2.2.1, r.2.2.2.1, r.2.2.2.2.1, r.2.2.2.2.2.1, r.2.2.2.2.2.2, ())
theorem w_100 (x : FAr sa_100 ba_100) : evF C_100 O_100 L_100 38 sa_100 ba_100 x =
 impl_SysRevokeK x.1 x.2.1 (fun r => some (out_100 r)) := by kernel_rfl
theorem sem_100 : SemF 38 sa_100 ba_100 (fun x => impl_SysRevoke x.1 x.2.1) out_100 :=
 sem_of folP okP tabP (Oracle.of_ok (Oracle.cons_ok ok_99 Oracle.nil_ok)) lf_100 fun x => (w_100 x).trans (impl_SysRevoke_eq x.1 x.2.1 _)
noncomputable def c_100 : Con := Con.shape sa_100 ba_100 (fun x => impl_SysRevoke x.1 x.2.1) out_100
theorem ok_100 : ConOk Try.prog 38 c_100 := Con.shape_ok sem_100

/-! 94 -/
def C_101 : Cfg := { T := tab, hint := fun _ => { mu := [4, 7, 13], keepR := [0, 1, 4, 5, 6, 7, 11, 18, 19, 20, 21, 33], res := [4], keepL := [(0, [0, 1, 5, 18, 19, 20])], keepX := [(0, [5]), (1, [0, 1, 5, 18, 19, 20])] }, mode := fun _ => .borrow }
noncomputable def O_101 : Oracle := Oracle.of [(80, c_52), (103, c_59)]
def sh_101_l0 : List (Nat × S2) := [(0, .one (.dat (.sl tEntry))), (1, .one (.dat I)), (5, .one (.all 0)), (18, .one (.dat (.sl tEntry))), (19, .one (.dat I)), (20, .one (.dat I))]
def bs_101_l0 : List SB := [.data tEntry]
def xs_101_l0 : List (Nat × S2) := [(5, .one (.all 0))]
def xb_101_l0 : List SB := [.data tEntry]
noncomputable def lc_101_l0 : LCon := LCon.shape1 sh_101_l0 bs_101_l0 impl_RemoveCap_l0 (fun a => (.exit 0, encSt xs_101_l0 xb_101_l0 a))
noncomputable def L_101 : Loops := Loops.of [(0, lc_101_l0)]
theorem r_101_l0 (x : FSt sh_101_l0 bs_101_l0) : rdF C_101 O_101 L_101 94 0 0 sh_101_l0 bs_101_l0 x =
 impl_RemoveCap_l0K x.1 x.2.1 x.2.2.1 x.2.2.2.1 x.2.2.2.2.1 x.2.2.2.2.2.1 (fun y => some (Ex.normal, encSt sh_101_l0 bs_101_l0 y)) (fun a => some (Ex.exit 0, encSt xs_101_l0 xb_101_l0 a)) := by kernel_rfl
theorem lo_101_l0 : loF C_101 O_101 L_101 94 0 0 lc_101_l0 :=
 LCon.shape1_ok (fun a => by simp) fun x => (r_101_l0 x).trans (impl_RemoveCap_l0_eq x.1 x.2.1 x.2.2.1 x.2.2.2.1 x.2.2.2.2.1 x.2.2.2.2.2.1 _ _)
theorem lf_101 : LoopsFn Try.prog C_101 O_101 94 L_101 := LoopsFn.all (by kernel_rfl) (by decide) ⟨lo_101_l0, trivial⟩
def sa_101 : List S2 := [.one (.dat (.sl tEntry)), .one (.dat I)]
def ba_101 : List SB := []
def out_101 (r : (List DEntry)) : AV × Store := out1 (.one (.all 0)) [.data tEntry] (r, ())
theorem w_101 (x : FAr sa_101 ba_101) : evF C_101 O_101 L_101 94 sa_101 ba_101 x =
 impl_RemoveCapK x.1 x.2.1 (fun r => some (out_101 r)) := by kernel_rfl
theorem sem_101 : SemF 94 sa_101 ba_101 (fun x => impl_RemoveCap x.1 x.2.1) out_101 :=
 sem_of folP okP tabP (Oracle.of_ok (Oracle.cons_ok ok_52 (Oracle.cons_ok ok_59 Oracle.nil_ok))) lf_101 fun x => (w_101 x).trans (impl_RemoveCap_eq x.1 x.2.1 _)
noncomputable def c_101 : Con := Con.shape sa_101 ba_101 (fun x => impl_RemoveCap x.1 x.2.1) out_101
theorem ok_101 : ConOk Try.prog 94 c_101 := Con.shape_ok sem_101

/-! 91 -/
def C_102 : Cfg := { T := tab, hint := fun _ => { mu := [6, 8, 14, 28], keepR := [1, 2, 3, 6, 7, 8, 11, 18], res := [6, 7], order := [(6, tns .read 0 5 ++ tns .forced 5 6)], fillR := true }, mode := modeOf [(126, .whole)] }
noncomputable def O_102 : Oracle := Oracle.of [(26, c_49), (56, c_56), (57, c_57), (94, c_101), (126, c_98)]
noncomputable def L_102 : Loops := Loops.of []
theorem lf_102 : LoopsFn Try.prog C_102 O_102 91 L_102 := LoopsFn.nil' (by kernel_rfl)
def sa_102 : List S2 := [.one (.dat tKernel), .one (.dat I), .fn 94 []]
def ba_102 : List SB := []
def out_102 (r : Int × Int × Int × Int × Int × (List DEntry) × (List Int)) : AV × Store := outT [.agg [.dat I, .dat I, .dat I, .all 0, .all 1, .dat I], .one (.dat I)] [.data tEntry, .data I] (r.1, r.2.1, r.2.2.1, r.2.2.2.1, r.2.2.2.2.1, r.2.2.2.2.2.1, r.2.2.2.2.2.2, ())
theorem w_102 (x : FAr sa_102 ba_102) : evF C_102 O_102 L_102 91 sa_102 ba_102 x =
 impl_removing_v2K x.1 x.2.1 (fun r => some (out_102 r)) := by kernel_rfl
theorem sem_102 : SemF 91 sa_102 ba_102 (fun x => impl_removing_v2 x.1 x.2.1) out_102 :=
 sem_of folP okP tabP (Oracle.of_ok (Oracle.cons_ok ok_49 (Oracle.cons_ok ok_56 (Oracle.cons_ok ok_57 (Oracle.cons_ok ok_101 (Oracle.cons_ok ok_98 Oracle.nil_ok)))))) lf_102 fun x => (w_102 x).trans (impl_removing_v2_eq x.1 x.2.1 _)
noncomputable def c_102 : Con := Con.shape sa_102 ba_102 (fun x => impl_removing_v2 x.1 x.2.1) out_102
theorem ok_102 : ConOk Try.prog 91 c_102 := Con.shape_ok sem_102

/-! 40 -/
def C_103 : Cfg := { T := tab, hint := fun _ => { mu := [4, 8], keepR := [1, 2, 4, 5], res := [4, 5] }, mode := fun _ => .borrow }
noncomputable def O_103 : Oracle := Oracle.of [(91, c_102)]
noncomputable def L_103 : Loops := Loops.of []
theorem lf_103 : LoopsFn Try.prog C_103 O_103 40 L_103 := LoopsFn.nil' (by kernel_rfl)
def sa_103 : List S2 := [.one (.dat tKernel), .one (.dat I)]
def ba_103 : List SB := []
def out_103 (r : Int × Int × Int × Int × Int × (List DEntry) × (List Int)) : AV × Store := outT [.agg [.dat I, .dat I, .dat I, .all 0, .all 1, .dat I], .one (.dat I)] [.data tEntry, .data I] (r.1, r.2.1, r.2.2.1, r.2.2.2.1, r.2.2.2.2.1, r.2.2.2.2.2.1, r.2.2.2.2.2.2, ())
theorem w_103 (x : FAr sa_103 ba_103) : evF C_103 O_103 L_103 40 sa_103 ba_103 x =
 impl_SysDeleteK x.1 x.2.1 (fun r => some (out_103 r)) := by kernel_rfl
theorem sem_103 : SemF 40 sa_103 ba_103 (fun x => impl_SysDelete x.1 x.2.1) out_103 :=
 sem_of folP okP tabP (Oracle.of_ok (Oracle.cons_ok ok_102 Oracle.nil_ok)) lf_103 fun x => (w_103 x).trans (impl_SysDelete_eq x.1 x.2.1 _)
noncomputable def c_103 : Con := Con.shape sa_103 ba_103 (fun x => impl_SysDelete x.1 x.2.1) out_103
theorem ok_103 : ConOk Try.prog 40 c_103 := Con.shape_ok sem_103

/-! 6 -/
def C_104 : Cfg := { T := tab, hint := fun _ => { mu := [3, 5, 7, 9, 12], keepR := [0, 2, 3, 4, 5, 6, 7, 8, 9, 10, 11, 12, 16, 42, 57, 73, 112], res := [2], order := [(8, [(0, .forced), (1, .forced), (2, .forced)] ++ tns .read 3 4 ++ tns .forced 7 8), (10, tns .read 0 10 ++ [(10, .forced), (11, .forced)]), (15, [(0, .read), (1, .read), (2, .read)] ++ tns .forced 3 5 ++ [(8, .read), (9, .read)] ++ tns .forced 10 7 ++ [(17, .read), (18, .read)] ++ tns .forced 19 7 ++ tns .read 26 7 ++ tns .forced 33 4), (18, [(0, .forced), (1, .forced), (2, .forced)] ++ tns .read 3 7 ++ tns .forced 10 4 ++ tns .read 14 4 ++ tns .forced 18 7)], keepL := [(0, [3, 4, 5, 9, 10, 11])], keepX := [(0, [4, 5, 9, 10]), (1, [3, 4, 5, 9, 10, 11])] }, mode := fun _ => .borrow }
noncomputable def O_104 : Oracle := Oracle.of [(22, c_65), (24, c_66), (25, c_67), (37, c_93), (38, c_100), (39, c_29), (40, c_103)]
def sh_104_l0 : List (Nat × S2) := [(3, .one (.ptr 0 0 0)), (4, .one (.dat I)), (5, .one (.ptr 1 0 0)), (9, .one (.ptr 2 0 0)), (10, .one (.dat .bool)), (11, .one (.dat I))]
def bs_104_l0 : List SB := [.var [.dat I, .dat I, .dat I, .dat (.sl tEntry), .dat (.sl I), .dat I], .var [.dat I, .dat I, .dat I, .dat (.sl tEntry), .dat (.sl I), .dat I], .one tCap]
def xs_104_l0 : List (Nat × S2) := [(4, .one (.dat I)), (5, .one (.ptr 0 0 0)), (9, .one (.ptr 1 0 0)), (10, .one (.dat .bool))]
def xb_104_l0 : List SB := [.var [.dat I, .dat I, .dat I, .dat (.sl tEntry), .dat (.sl I), .dat I], .one tCap]
noncomputable def lc_104_l0 : LCon := LCon.shape1 sh_104_l0 bs_104_l0 laws_FnKernelRevoke_l0 (fun a => (.exit 0, encSt xs_104_l0 xb_104_l0 a))
noncomputable def L_104 : Loops := Loops.of [(0, lc_104_l0)]
theorem r_104_l0 (x : FSt sh_104_l0 bs_104_l0) : rdF C_104 O_104 L_104 6 0 0 sh_104_l0 bs_104_l0 x =
 laws_FnKernelRevoke_l0K x.1 x.2.1 x.2.2.1 x.2.2.2.1 x.2.2.2.2.1 x.2.2.2.2.2.1 x.2.2.2.2.2.2.1 x.2.2.2.2.2.2.2.1 x.2.2.2.2.2.2.2.2.1 x.2.2.2.2.2.2.2.2.2.1 x.2.2.2.2.2.2.2.2.2.2.1 x.2.2.2.2.2.2.2.2.2.2.2.1 x.2.2.2.2.2.2.2.2.2.2.2.2.1 x.2.2.2.2.2.2.2.2.2.2.2.2.2.1 x.2.2.2.2.2.2.2.2.2.2.2.2.2.2.1 x.2.2.2.2.2.2.2.2.2.2.2.2.2.2.2.1 (fun y => some (Ex.normal, encSt sh_104_l0 bs_104_l0 y)) (fun a => some (Ex.exit 0, encSt xs_104_l0 xb_104_l0 a)) := by kernel_rfl
theorem lo_104_l0 : loF C_104 O_104 L_104 6 0 0 lc_104_l0 :=
 LCon.shape1_ok (fun a => by simp) fun x => (r_104_l0 x).trans (laws_FnKernelRevoke_l0_eq x.1 x.2.1 x.2.2.1 x.2.2.2.1 x.2.2.2.2.1 x.2.2.2.2.2.1 x.2.2.2.2.2.2.1 x.2.2.2.2.2.2.2.1 x.2.2.2.2.2.2.2.2.1 x.2.2.2.2.2.2.2.2.2.1 x.2.2.2.2.2.2.2.2.2.2.1 x.2.2.2.2.2.2.2.2.2.2.2.1 x.2.2.2.2.2.2.2.2.2.2.2.2.1 x.2.2.2.2.2.2.2.2.2.2.2.2.2.1 x.2.2.2.2.2.2.2.2.2.2.2.2.2.2.1 x.2.2.2.2.2.2.2.2.2.2.2.2.2.2.2.1 _ _)
theorem lf_104 : LoopsFn Try.prog C_104 O_104 6 L_104 := LoopsFn.all (by kernel_rfl) (by decide) ⟨lo_104_l0, trivial⟩
def sa_104 : List S2 := [.one (.dat (.sl (.int .u8)))]
def ba_104 : List SB := []
def out_104 (r : Bool) : AV × Store := out1 (.one (.dat .bool)) [] (r, ())
theorem w_104 (x : FAr sa_104 ba_104) : evF C_104 O_104 L_104 6 sa_104 ba_104 x =
 laws_FnKernelRevokeK x.1 (fun r => some (out_104 r)) := by kernel_rfl
theorem sem_104 : SemF 6 sa_104 ba_104 (fun x => laws_FnKernelRevoke x.1) out_104 :=
 sem_of folP okP tabP (Oracle.of_ok (Oracle.cons_ok ok_65 (Oracle.cons_ok ok_66 (Oracle.cons_ok ok_67 (Oracle.cons_ok ok_93 (Oracle.cons_ok ok_100 (Oracle.cons_ok ok_29 (Oracle.cons_ok ok_103 Oracle.nil_ok)))))))) lf_104 fun x => (w_104 x).trans (laws_FnKernelRevoke_eq x.1 _)
noncomputable def c_104 : Con := Con.shape sa_104 ba_104 (fun x => laws_FnKernelRevoke x.1) out_104
theorem ok_104 : ConOk Try.prog 6 c_104 := Con.shape_ok sem_104

/-! 41 -/
def C_105 : Cfg := { T := tab, hint := fun _ => { mu := [6], keepR := [0, 2, 3, 4], res := [2, 3] }, mode := modeOf [(55, .sub)] }
noncomputable def O_105 : Oracle := Oracle.of [(51, c_0), (55, c_1)]
noncomputable def L_105 : Loops := Loops.of []
theorem lf_105 : LoopsFn Try.prog C_105 O_105 41 L_105 := LoopsFn.nil' (by kernel_rfl)
def sa_105 : List S2 := [.one (.dat (.sl (.int .u8)))]
def ba_105 : List SB := []
def out_105 (r : Int × Int) : AV × Store := outT [.one (.dat I), .one (.dat I)] [] (r.1, r.2, ())
theorem w_105 (x : FAr sa_105 ba_105) : evF C_105 O_105 L_105 41 sa_105 ba_105 x =
 spec_DrawNewKernelK x.1 (fun r => some (out_105 r)) := by kernel_rfl
theorem sem_105 : SemF 41 sa_105 ba_105 (fun x => spec_DrawNewKernel x.1) out_105 :=
 sem_of folP okP tabP (Oracle.of_ok (Oracle.cons_ok ok_0 (Oracle.cons_ok ok_1 Oracle.nil_ok))) lf_105 fun x => (w_105 x).trans (spec_DrawNewKernel_eq x.1 _)
noncomputable def c_105 : Con := Con.shape sa_105 ba_105 (fun x => spec_DrawNewKernel x.1) out_105
theorem ok_105 : ConOk Try.prog 41 c_105 := Con.shape_ok sem_105

/-! 7 -/
def C_106 : Cfg := { T := tab, hint := fun _ => { mu := [5, 8], keepR := [0, 2, 3, 4, 5, 6, 7, 8, 9, 10, 11, 14, 28, 34, 44, 52], res := [2], order := [(5, [(0, .read), (1, .read)] ++ tns .forced 2 4)], keepL := [(0, [3, 4, 5, 6, 7])], keepX := [(0, [3, 4, 6, 7]), (1, [3, 4, 5, 6, 7])] }, mode := fun _ => .borrow }
noncomputable def O_106 : Oracle := Oracle.of [(22, c_65), (29, c_73), (32, c_3), (33, c_78), (41, c_105)]
def sh_106_l0 : List (Nat × S2) := [(3, .one (.dat I)), (4, .one (.dat I)), (5, .one (.ptr 0 0 0)), (6, .one (.dat I)), (7, .one (.dat I))]
def bs_106_l0 : List SB := [.var [.dat I, .dat I, .dat I, .dat (.sl tEntry), .dat (.sl I), .dat I]]
def xs_106_l0 : List (Nat × S2) := [(3, .one (.dat I)), (4, .one (.dat I)), (6, .one (.dat I)), (7, .one (.dat I))]
def xb_106_l0 : List SB := []
noncomputable def lc_106_l0 : LCon := LCon.shape1 sh_106_l0 bs_106_l0 laws_FnKernelNew_l0 (fun a => (.exit 0, encSt xs_106_l0 xb_106_l0 a))
noncomputable def L_106 : Loops := Loops.of [(0, lc_106_l0)]
theorem r_106_l0 (x : FSt sh_106_l0 bs_106_l0) : rdF C_106 O_106 L_106 7 0 0 sh_106_l0 bs_106_l0 x =
 laws_FnKernelNew_l0K x.1 x.2.1 x.2.2.1 x.2.2.2.1 x.2.2.2.2.1 x.2.2.2.2.2.1 x.2.2.2.2.2.2.1 x.2.2.2.2.2.2.2.1 x.2.2.2.2.2.2.2.2.1 x.2.2.2.2.2.2.2.2.2.1 (fun y => some (Ex.normal, encSt sh_106_l0 bs_106_l0 y)) (fun a => some (Ex.exit 0, encSt xs_106_l0 xb_106_l0 a)) := by kernel_rfl
theorem lo_106_l0 : loF C_106 O_106 L_106 7 0 0 lc_106_l0 :=
 LCon.shape1_ok (fun a => by simp) fun x => (r_106_l0 x).trans (laws_FnKernelNew_l0_eq x.1 x.2.1 x.2.2.1 x.2.2.2.1 x.2.2.2.2.1 x.2.2.2.2.2.1 x.2.2.2.2.2.2.1 x.2.2.2.2.2.2.2.1 x.2.2.2.2.2.2.2.2.1 x.2.2.2.2.2.2.2.2.2.1 _ _)
theorem lf_106 : LoopsFn Try.prog C_106 O_106 7 L_106 := LoopsFn.all (by kernel_rfl) (by decide) ⟨lo_106_l0, trivial⟩
def sa_106 : List S2 := [.one (.dat (.sl (.int .u8)))]
def ba_106 : List SB := []
def out_106 (r : Bool) : AV × Store := out1 (.one (.dat .bool)) [] (r, ())
theorem w_106 (x : FAr sa_106 ba_106) : evF C_106 O_106 L_106 7 sa_106 ba_106 x =
 laws_FnKernelNewK x.1 (fun r => some (out_106 r)) := by kernel_rfl
theorem sem_106 : SemF 7 sa_106 ba_106 (fun x => laws_FnKernelNew x.1) out_106 :=
 sem_of folP okP tabP (Oracle.of_ok (Oracle.cons_ok ok_65 (Oracle.cons_ok ok_73 (Oracle.cons_ok ok_3 (Oracle.cons_ok ok_78 (Oracle.cons_ok ok_105 Oracle.nil_ok)))))) lf_106 fun x => (w_106 x).trans (laws_FnKernelNew_eq x.1 _)
noncomputable def c_106 : Con := Con.shape sa_106 ba_106 (fun x => laws_FnKernelNew x.1) out_106
theorem ok_106 : ConOk Try.prog 7 c_106 := Con.shape_ok sem_106

/-! 95 -/
def C_107 : Cfg := { T := tab, hint := fun _ => { keepR := [0, 1, 4, 10], res := [4] }, mode := fun _ => .borrow }
noncomputable def O_107 : Oracle := Oracle.of []
noncomputable def L_107 : Loops := Loops.of []
theorem lf_107 : LoopsFn Try.prog C_107 O_107 95 L_107 := LoopsFn.nil' (by kernel_rfl)
def sa_107 : List S2 := [.one (.dat (.sl tEntry)), .one (.dat I)]
def ba_107 : List SB := []
def out_107 (r : Int) : AV × Store := out1 (.one (.dat I)) [] (r, ())
theorem w_107 (x : FAr sa_107 ba_107) : evF C_107 O_107 L_107 95 sa_107 ba_107 x =
 laws_szEntrySK x.1 x.2.1 (fun r => some (out_107 r)) := by kernel_rfl
theorem sem_107 : SemF 95 sa_107 ba_107 (fun x => laws_szEntryS x.1 x.2.1) out_107 :=
 sem_of folP okP tabP (Oracle.of_ok Oracle.nil_ok) lf_107 fun x => (w_107 x).trans (laws_szEntryS_eq x.1 x.2.1 _)
noncomputable def c_107 : Con := Con.shape sa_107 ba_107 (fun x => laws_szEntryS x.1 x.2.1) out_107
theorem ok_107 : ConOk Try.prog 95 c_107 := Con.shape_ok sem_107

/-! 96 -/
def C_108 : Cfg := { T := tab, hint := fun _ => { keepR := [0, 1, 4, 10], res := [4] }, mode := fun _ => .borrow }
noncomputable def O_108 : Oracle := Oracle.of []
noncomputable def L_108 : Loops := Loops.of []
theorem lf_108 : LoopsFn Try.prog C_108 O_108 96 L_108 := LoopsFn.nil' (by kernel_rfl)
def sa_108 : List S2 := [.one (.dat (.sl I)), .one (.dat I)]
def ba_108 : List SB := []
def out_108 (r : Int) : AV × Store := out1 (.one (.dat I)) [] (r, ())
theorem w_108 (x : FAr sa_108 ba_108) : evF C_108 O_108 L_108 96 sa_108 ba_108 x =
 laws_szIntSK x.1 x.2.1 (fun r => some (out_108 r)) := by kernel_rfl
theorem sem_108 : SemF 96 sa_108 ba_108 (fun x => laws_szIntS x.1 x.2.1) out_108 :=
 sem_of folP okP tabP (Oracle.of_ok Oracle.nil_ok) lf_108 fun x => (w_108 x).trans (laws_szIntS_eq x.1 x.2.1 _)
noncomputable def c_108 : Con := Con.shape sa_108 ba_108 (fun x => laws_szIntS x.1 x.2.1) out_108
theorem ok_108 : ConOk Try.prog 96 c_108 := Con.shape_ok sem_108

/-! 42 -/
def C_109 : Cfg := { T := tab, hint := fun _ => { keepR := [1, 2, 4, 10, 16], res := [4] }, mode := fun _ => .borrow }
noncomputable def O_109 : Oracle := Oracle.of [(95, c_107), (96, c_108)]
noncomputable def L_109 : Loops := Loops.of []
theorem lf_109 : LoopsFn Try.prog C_109 O_109 42 L_109 := LoopsFn.nil' (by kernel_rfl)
def sa_109 : List S2 := [.one (.dat tKernel), .one (.dat I)]
def ba_109 : List SB := []
def out_109 (r : Int) : AV × Store := out1 (.one (.dat I)) [] (r, ())
theorem w_109 (x : FAr sa_109 ba_109) : evF C_109 O_109 L_109 42 sa_109 ba_109 x =
 laws_szKernelK x.1 x.2.1 (fun r => some (out_109 r)) := by kernel_rfl
theorem sem_109 : SemF 42 sa_109 ba_109 (fun x => laws_szKernel x.1 x.2.1) out_109 :=
 sem_of folP okP tabP (Oracle.of_ok (Oracle.cons_ok ok_107 (Oracle.cons_ok ok_108 Oracle.nil_ok))) lf_109 fun x => (w_109 x).trans (laws_szKernel_eq x.1 x.2.1 _)
noncomputable def c_109 : Con := Con.shape sa_109 ba_109 (fun x => laws_szKernel x.1 x.2.1) out_109
theorem ok_109 : ConOk Try.prog 42 c_109 := Con.shape_ok sem_109

/-! 97 -/
def C_110 : Cfg := { T := tab, hint := fun _ => { mu := [2, 3], keepR := [1, 2, 3], res := [2] }, mode := fun _ => .borrow }
noncomputable def O_110 : Oracle := Oracle.of []
noncomputable def L_110 : Loops := Loops.of []
theorem lf_110 : LoopsFn Try.prog C_110 O_110 97 L_110 := LoopsFn.nil' (by kernel_rfl)
def sa_110 : List S2 := [.one (.dat tPiece)]
def ba_110 : List SB := []
def out_110 (r : DPiece) : AV × Store := out1 (.one (.dat tPiece)) [] (r, ())
theorem w_110 (x : FAr sa_110 ba_110) : evF C_110 O_110 L_110 97 sa_110 ba_110 x =
 laws_toPieceK x.1 (fun r => some (out_110 r)) := by kernel_rfl
theorem sem_110 : SemF 97 sa_110 ba_110 (fun x => laws_toPiece x.1) out_110 :=
 sem_of folP okP tabP (Oracle.of_ok Oracle.nil_ok) lf_110 fun x => (w_110 x).trans (laws_toPiece_eq x.1 _)
noncomputable def c_110 : Con := Con.shape sa_110 ba_110 (fun x => laws_toPiece x.1) out_110
theorem ok_110 : ConOk Try.prog 97 c_110 := Con.shape_ok sem_110

/-! 141 -/
def C_111 : Cfg := { T := tab, hint := fun _ => { mu := [2, 3], keepR := [1, 2, 3], res := [2] }, mode := fun _ => .borrow }
noncomputable def O_111 : Oracle := Oracle.of []
noncomputable def L_111 : Loops := Loops.of []
theorem lf_111 : LoopsFn Try.prog C_111 O_111 141 L_111 := LoopsFn.nil' (by kernel_rfl)
def sa_111 : List S2 := [.one (.dat tCap)]
def ba_111 : List SB := []
def out_111 (r : DCap) : AV × Store := out1 (.one (.dat tCap)) [] (r, ())
theorem w_111 (x : FAr sa_111 ba_111) : evF C_111 O_111 L_111 141 sa_111 ba_111 x =
 laws_toCapK x.1 (fun r => some (out_111 r)) := by kernel_rfl
theorem sem_111 : SemF 141 sa_111 ba_111 (fun x => laws_toCap x.1) out_111 :=
 sem_of folP okP tabP (Oracle.of_ok Oracle.nil_ok) lf_111 fun x => (w_111 x).trans (laws_toCap_eq x.1 _)
noncomputable def c_111 : Con := Con.shape sa_111 ba_111 (fun x => laws_toCap x.1) out_111
theorem ok_111 : ConOk Try.prog 141 c_111 := Con.shape_ok sem_111

/-! 129 -/
def C_112 : Cfg := { T := tab, hint := fun _ => { mu := [2, 3], keepR := [1, 2, 3], res := [2] }, mode := fun _ => .borrow }
noncomputable def O_112 : Oracle := Oracle.of [(141, c_111)]
noncomputable def L_112 : Loops := Loops.of []
theorem lf_112 : LoopsFn Try.prog C_112 O_112 129 L_112 := LoopsFn.nil' (by kernel_rfl)
def sa_112 : List S2 := [.one (.dat tEntry)]
def ba_112 : List SB := []
def out_112 (r : DEntry) : AV × Store := out1 (.one (.dat tEntry)) [] (r, ())
theorem w_112 (x : FAr sa_112 ba_112) : evF C_112 O_112 L_112 129 sa_112 ba_112 x =
 laws_toEntryK x.1 (fun r => some (out_112 r)) := by kernel_rfl
theorem sem_112 : SemF 129 sa_112 ba_112 (fun x => laws_toEntry x.1) out_112 :=
 sem_of folP okP tabP (Oracle.of_ok (Oracle.cons_ok ok_111 Oracle.nil_ok)) lf_112 fun x => (w_112 x).trans (laws_toEntry_eq x.1 _)
noncomputable def c_112 : Con := Con.shape sa_112 ba_112 (fun x => laws_toEntry x.1) out_112
theorem ok_112 : ConOk Try.prog 129 c_112 := Con.shape_ok sem_112

/-! 98 -/
def C_113 : Cfg := { T := tab, hint := fun _ => { mu := [7], keepR := [0, 2, 3, 4, 11], res := [2], keepL := [(0, [0, 3, 4])], keepX := [(0, [3]), (1, [0, 3, 4])] }, mode := fun _ => .borrow }
noncomputable def O_113 : Oracle := Oracle.of [(129, c_112)]
def sh_113_l0 : List (Nat × S2) := [(0, .one (.dat (.sl tEntry))), (3, .one (.all 0)), (4, .one (.dat I))]
def bs_113_l0 : List SB := [.data tEntry]
def xs_113_l0 : List (Nat × S2) := [(3, .one (.all 0))]
def xb_113_l0 : List SB := [.data tEntry]
noncomputable def lc_113_l0 : LCon := LCon.shape1 sh_113_l0 bs_113_l0 laws_toEntryS_l0 (fun a => (.exit 0, encSt xs_113_l0 xb_113_l0 a))
noncomputable def L_113 : Loops := Loops.of [(0, lc_113_l0)]
theorem r_113_l0 (x : FSt sh_113_l0 bs_113_l0) : rdF C_113 O_113 L_113 98 0 0 sh_113_l0 bs_113_l0 x =
 laws_toEntryS_l0K x.1 x.2.1 x.2.2.1 (fun y => some (Ex.normal, encSt sh_113_l0 bs_113_l0 y)) (fun a => some (Ex.exit 0, encSt xs_113_l0 xb_113_l0 a)) := by kernel_rfl
theorem lo_113_l0 : loF C_113 O_113 L_113 98 0 0 lc_113_l0 :=
 LCon.shape1_ok (fun a => by simp) fun x => (r_113_l0 x).trans (laws_toEntryS_l0_eq x.1 x.2.1 x.2.2.1 _ _)
theorem lf_113 : LoopsFn Try.prog C_113 O_113 98 L_113 := LoopsFn.all (by kernel_rfl) (by decide) ⟨lo_113_l0, trivial⟩
def sa_113 : List S2 := [.one (.dat (.sl tEntry))]
def ba_113 : List SB := []
def out_113 (r : (List DEntry)) : AV × Store := out1 (.one (.all 0)) [.data tEntry] (r, ())
theorem w_113 (x : FAr sa_113 ba_113) : evF C_113 O_113 L_113 98 sa_113 ba_113 x =
 laws_toEntrySK x.1 (fun r => some (out_113 r)) := by kernel_rfl
theorem sem_113 : SemF 98 sa_113 ba_113 (fun x => laws_toEntryS x.1) out_113 :=
 sem_of folP okP tabP (Oracle.of_ok (Oracle.cons_ok ok_112 Oracle.nil_ok)) lf_113 fun x => (w_113 x).trans (laws_toEntryS_eq x.1 _)
noncomputable def c_113 : Con := Con.shape sa_113 ba_113 (fun x => laws_toEntryS x.1) out_113
theorem ok_113 : ConOk Try.prog 98 c_113 := Con.shape_ok sem_113

/-! 99 -/
def C_114 : Cfg := { T := tab, hint := fun _ => { mu := [7], keepR := [0, 2, 3, 4, 11], res := [2], keepL := [(0, [0, 3, 4])], keepX := [(0, [3]), (1, [0, 3, 4])] }, mode := fun _ => .borrow }
noncomputable def O_114 : Oracle := Oracle.of []
def sh_114_l0 : List (Nat × S2) := [(0, .one (.dat (.sl I))), (3, .one (.all 0)), (4, .one (.dat I))]
def bs_114_l0 : List SB := [.data I]
def xs_114_l0 : List (Nat × S2) := [(3, .one (.all 0))]
def xb_114_l0 : List SB := [.data I]
noncomputable def lc_114_l0 : LCon := LCon.shape1 sh_114_l0 bs_114_l0 laws_toIntS_l0 (fun a => (.exit 0, encSt xs_114_l0 xb_114_l0 a))
noncomputable def L_114 : Loops := Loops.of [(0, lc_114_l0)]
theorem r_114_l0 (x : FSt sh_114_l0 bs_114_l0) : rdF C_114 O_114 L_114 99 0 0 sh_114_l0 bs_114_l0 x =
 laws_toIntS_l0K x.1 x.2.1 x.2.2.1 (fun y => some (Ex.normal, encSt sh_114_l0 bs_114_l0 y)) (fun a => some (Ex.exit 0, encSt xs_114_l0 xb_114_l0 a)) := by kernel_rfl
theorem lo_114_l0 : loF C_114 O_114 L_114 99 0 0 lc_114_l0 :=
 LCon.shape1_ok (fun a => by simp) fun x => (r_114_l0 x).trans (laws_toIntS_l0_eq x.1 x.2.1 x.2.2.1 _ _)
theorem lf_114 : LoopsFn Try.prog C_114 O_114 99 L_114 := LoopsFn.all (by kernel_rfl) (by decide) ⟨lo_114_l0, trivial⟩
def sa_114 : List S2 := [.one (.dat (.sl I))]
def ba_114 : List SB := []
def out_114 (r : (List Int)) : AV × Store := out1 (.one (.all 0)) [.data I] (r, ())
theorem w_114 (x : FAr sa_114 ba_114) : evF C_114 O_114 L_114 99 sa_114 ba_114 x =
 laws_toIntSK x.1 (fun r => some (out_114 r)) := by kernel_rfl
theorem sem_114 : SemF 99 sa_114 ba_114 (fun x => laws_toIntS x.1) out_114 :=
 sem_of folP okP tabP (Oracle.of_ok Oracle.nil_ok) lf_114 fun x => (w_114 x).trans (laws_toIntS_eq x.1 _)
noncomputable def c_114 : Con := Con.shape sa_114 ba_114 (fun x => laws_toIntS x.1) out_114
theorem ok_114 : ConOk Try.prog 99 c_114 := Con.shape_ok sem_114

/-! 43 -/
def C_115 : Cfg := { T := tab, hint := fun _ => { mu := [2, 3, 10, 14], keepR := [1, 2, 3], res := [2] }, mode := fun _ => .borrow }
noncomputable def O_115 : Oracle := Oracle.of [(97, c_110), (98, c_113), (99, c_114)]
noncomputable def L_115 : Loops := Loops.of []
theorem lf_115 : LoopsFn Try.prog C_115 O_115 43 L_115 := LoopsFn.nil' (by kernel_rfl)
def sa_115 : List S2 := [.one (.dat tKernel)]
def ba_115 : List SB := []
def out_115 (r : Int × Int × Int × Int × (List DEntry) × (List Int)) : AV × Store := out1 (.agg [.dat I, .dat I, .dat I, .all 0, .all 1, .dat I]) [.data tEntry, .data I] (r.1, r.2.1, r.2.2.1, r.2.2.2.1, r.2.2.2.2.1, r.2.2.2.2.2, ())
theorem w_115 (x : FAr sa_115 ba_115) : evF C_115 O_115 L_115 43 sa_115 ba_115 x =
 laws_toKernelK x.1 (fun r => some (out_115 r)) := by kernel_rfl
theorem sem_115 : SemF 43 sa_115 ba_115 (fun x => laws_toKernel x.1) out_115 :=
 sem_of folP okP tabP (Oracle.of_ok (Oracle.cons_ok ok_110 (Oracle.cons_ok ok_113 (Oracle.cons_ok ok_114 Oracle.nil_ok)))) lf_115 fun x => (w_115 x).trans (laws_toKernel_eq x.1 _)
noncomputable def c_115 : Con := Con.shape sa_115 ba_115 (fun x => laws_toKernel x.1) out_115
theorem ok_115 : ConOk Try.prog 43 c_115 := Con.shape_ok sem_115

/-! 8 -/
def C_116 : Cfg := { T := tab, hint := fun _ => { mu := [5], keepR := [1, 2, 3, 4, 5, 6, 11, 21, 26], res := [2], order := [(10, [(0, .read)] ++ tns .forced 1 4)] }, mode := fun _ => .borrow }
noncomputable def O_116 : Oracle := Oracle.of [(23, c_12), (26, c_49), (34, c_84), (42, c_109), (43, c_115)]
noncomputable def L_116 : Loops := Loops.of []
theorem lf_116 : LoopsFn Try.prog C_116 O_116 8 L_116 := LoopsFn.nil' (by kernel_rfl)
def sa_116 : List S2 := [.one (.dat tKernel)]
def ba_116 : List SB := []
def out_116 (r : Bool) : AV × Store := out1 (.one (.dat .bool)) [] (r, ())
theorem w_116 (x : FAr sa_116 ba_116) : evF C_116 O_116 L_116 8 sa_116 ba_116 x =
 laws_FnExactKernelValidK x.1 (fun r => some (out_116 r)) := by kernel_rfl
theorem sem_116 : SemF 8 sa_116 ba_116 (fun x => laws_FnExactKernelValid x.1) out_116 :=
 sem_of folP okP tabP (Oracle.of_ok (Oracle.cons_ok ok_12 (Oracle.cons_ok ok_49 (Oracle.cons_ok ok_84 (Oracle.cons_ok ok_109 (Oracle.cons_ok ok_115 Oracle.nil_ok)))))) lf_116 fun x => (w_116 x).trans (laws_FnExactKernelValid_eq x.1 _)
noncomputable def c_116 : Con := Con.shape sa_116 ba_116 (fun x => laws_FnExactKernelValid x.1) out_116
theorem ok_116 : ConOk Try.prog 8 c_116 := Con.shape_ok sem_116

/-! 9 -/
def C_117 : Cfg := { T := tab, hint := fun _ => { mu := [5, 6], keepR := [0, 2, 3, 4, 5, 7, 10, 24, 38], res := [2], order := [(5, [(0, .read), (1, .read)] ++ tns .forced 2 4)] }, mode := fun _ => .borrow }
noncomputable def O_117 : Oracle := Oracle.of [(22, c_65), (24, c_66), (26, c_49), (32, c_3), (33, c_78), (38, c_100), (41, c_105)]
noncomputable def L_117 : Loops := Loops.of []
theorem lf_117 : LoopsFn Try.prog C_117 O_117 9 L_117 := LoopsFn.nil' (by kernel_rfl)
def sa_117 : List S2 := [.one (.dat (.sl (.int .u8)))]
def ba_117 : List SB := []
def out_117 (r : Bool) : AV × Store := out1 (.one (.dat .bool)) [] (r, ())
theorem w_117 (x : FAr sa_117 ba_117) : evF C_117 O_117 L_117 9 sa_117 ba_117 x =
 laws_FnNewKernelK x.1 (fun r => some (out_117 r)) := by kernel_rfl
theorem sem_117 : SemF 9 sa_117 ba_117 (fun x => laws_FnNewKernel x.1) out_117 :=
 sem_of folP okP tabP (Oracle.of_ok (Oracle.cons_ok ok_65 (Oracle.cons_ok ok_66 (Oracle.cons_ok ok_49 (Oracle.cons_ok ok_3 (Oracle.cons_ok ok_78 (Oracle.cons_ok ok_100 (Oracle.cons_ok ok_105 Oracle.nil_ok)))))))) lf_117 fun x => (w_117 x).trans (laws_FnNewKernel_eq x.1 _)
noncomputable def c_117 : Con := Con.shape sa_117 ba_117 (fun x => laws_FnNewKernel x.1) out_117
theorem ok_117 : ConOk Try.prog 9 c_117 := Con.shape_ok sem_117

/-! 100 -/
def C_118 : Cfg := { T := tab, hint := fun _ => { mu := [12, 15], keepR := [0, 1, 2, 6, 7, 8, 11, 43], res := [6, 7] }, mode := fun _ => .borrow }
noncomputable def O_118 : Oracle := Oracle.of [(66, c_10), (67, c_2)]
noncomputable def L_118 : Loops := Loops.of []
theorem lf_118 : LoopsFn Try.prog C_118 O_118 100 L_118 := LoopsFn.nil' (by kernel_rfl)
def sa_118 : List S2 := [.one (.dat (.sl I)), .one (.dat I), .one (.dat I)]
def ba_118 : List SB := []
def out_118 (r : Bool × (List Int)) : AV × Store := outT [.one (.all 0), .one (.dat .bool)] [.data I] (r.1, r.2, ())
theorem w_118 (x : FAr sa_118 ba_118) : evF C_118 O_118 L_118 100 sa_118 ba_118 x =
 spec_MovePlaceK x.1 x.2.1 x.2.2.1 (fun r => some (out_118 r)) := by kernel_rfl
theorem sem_118 : SemF 100 sa_118 ba_118 (fun x => spec_MovePlace x.1 x.2.1 x.2.2.1) out_118 :=
 sem_of folP okP tabP (Oracle.of_ok (Oracle.cons_ok ok_10 (Oracle.cons_ok ok_2 Oracle.nil_ok))) lf_118 fun x => (w_118 x).trans (spec_MovePlace_eq x.1 x.2.1 x.2.2.1 _)
noncomputable def c_118 : Con := Con.shape sa_118 ba_118 (fun x => spec_MovePlace x.1 x.2.1 x.2.2.1) out_118
theorem ok_118 : ConOk Try.prog 100 c_118 := Con.shape_ok sem_118

/-! 44 -/
def C_119 : Cfg := { T := tab, hint := fun _ => { mu := [6, 8, 16, 22], keepR := [1, 2, 3, 6, 7, 8, 9, 10, 13, 26], res := [6, 7], fillR := true }, mode := fun _ => .borrow }
noncomputable def O_119 : Oracle := Oracle.of [(23, c_12), (60, c_13), (100, c_118)]
noncomputable def L_119 : Loops := Loops.of []
theorem lf_119 : LoopsFn Try.prog C_119 O_119 44 L_119 := LoopsFn.nil' (by kernel_rfl)
def sa_119 : List S2 := [.one (.dat tKernel), .one (.dat I), .one (.dat I)]
def ba_119 : List SB := []
def out_119 (r : Int × Int × Int × Int × Int × (List DEntry) × (List Int)) : AV × Store := outT [.agg [.dat I, .dat I, .dat I, .all 0, .all 1, .dat I], .one (.dat I)] [.data tEntry, .data I] (r.1, r.2.1, r.2.2.1, r.2.2.2.1, r.2.2.2.2.1, r.2.2.2.2.2.1, r.2.2.2.2.2.2, ())
theorem w_119 (x : FAr sa_119 ba_119) : evF C_119 O_119 L_119 44 sa_119 ba_119 x =
 spec_SysMoveK x.1 x.2.1 x.2.2.1 (fun r => some (out_119 r)) := by kernel_rfl
theorem sem_119 : SemF 44 sa_119 ba_119 (fun x => spec_SysMove x.1 x.2.1 x.2.2.1) out_119 :=
 sem_of folP okP tabP (Oracle.of_ok (Oracle.cons_ok ok_12 (Oracle.cons_ok ok_13 (Oracle.cons_ok ok_118 Oracle.nil_ok)))) lf_119 fun x => (w_119 x).trans (spec_SysMove_eq x.1 x.2.1 x.2.2.1 _)
noncomputable def c_119 : Con := Con.shape sa_119 ba_119 (fun x => spec_SysMove x.1 x.2.1 x.2.2.1) out_119
theorem ok_119 : ConOk Try.prog 44 c_119 := Con.shape_ok sem_119

/-! 131 -/
def C_120 : Cfg := { T := tab, hint := fun _ => { keepR := [0, 1, 2, 3], res := [3] }, mode := fun _ => .borrow }
noncomputable def O_120 : Oracle := Oracle.of []
noncomputable def L_120 : Loops := Loops.of []
theorem lf_120 : LoopsFn Try.prog C_120 O_120 131 L_120 := LoopsFn.nil' (by kernel_rfl)
def sa_120 : List S2 := [.one (.cdat (.sl I) 0), .one (.cdat I 0), .one (.cdat I 0)]
def ba_120 : List SB := []
def out_120 (r : Bool) : AV × Store := out1 (.one (.dat .bool)) [] (r, ())
theorem w_120 (x : FAr sa_120 ba_120) : evF C_120 O_120 L_120 131 sa_120 ba_120 x =
 impl_MovePlace_c1K x.1 x.2.1 x.2.2.1 (fun r => some (out_120 r)) := by kernel_rfl
theorem sem_120 : SemF 131 sa_120 ba_120 (fun x => impl_MovePlace_c1 x.1 x.2.1 x.2.2.1) out_120 :=
 sem_of folP okP tabP (Oracle.of_ok Oracle.nil_ok) lf_120 fun x => (w_120 x).trans (impl_MovePlace_c1_eq x.1 x.2.1 x.2.2.1 _)
noncomputable def c_120 : Con := Con.shape sa_120 ba_120 (fun x => impl_MovePlace_c1 x.1 x.2.1 x.2.2.1) out_120
theorem ok_120 : ConOk Try.prog 131 c_120 := Con.shape_ok sem_120

/-! 130 -/
def C_121 : Cfg := { T := tab, hint := fun _ => { mu := [8, 15], keepR := [0, 1, 2, 3, 8, 9, 10, 13, 34], res := [8, 9], order := [(6, [(0, .read), (1, .read)] ++ tns .read 4 9 ++ [(2, .pure), (3, .pure), (13, .forced), (14, .forced), (15, .forced)])] }, mode := fun _ => .borrow }
noncomputable def O_121 : Oracle := Oracle.of [(72, c_45), (73, c_35), (106, c_55), (131, c_120)]
noncomputable def L_121 : Loops := Loops.of []
theorem lf_121 : LoopsFn Try.prog C_121 O_121 130 L_121 := LoopsFn.nil' (by kernel_rfl)
def sa_121 : List S2 := [.one (.dat (.sl I)), .one (.dat I), .one (.dat I), .fn 131 [.cdat (.sl I) 0, .cdat I 0, .cdat I 0]]
def ba_121 : List SB := []
def out_121 (r : Bool × (List Int)) : AV × Store := outT [.one (.all 0), .one (.dat .bool)] [.data I] (r.1, r.2, ())
theorem w_121 (x : FAr sa_121 ba_121) : evF C_121 O_121 L_121 130 sa_121 ba_121 x =
 impl_exchangeK x.1 x.2.1 x.2.2.1 x.2.2.2.1 x.2.2.2.2.1 x.2.2.2.2.2.1 (fun r => some (out_121 r)) := by kernel_rfl
theorem sem_121 : SemF 130 sa_121 ba_121 (fun x => impl_exchange x.1 x.2.1 x.2.2.1 x.2.2.2.1 x.2.2.2.2.1 x.2.2.2.2.2.1) out_121 :=
 sem_of folP okP tabP (Oracle.of_ok (Oracle.cons_ok ok_45 (Oracle.cons_ok ok_35 (Oracle.cons_ok ok_55 (Oracle.cons_ok ok_120 Oracle.nil_ok))))) lf_121 fun x => (w_121 x).trans (impl_exchange_eq x.1 x.2.1 x.2.2.1 x.2.2.2.1 x.2.2.2.2.1 x.2.2.2.2.2.1 _)
noncomputable def c_121 : Con := Con.shape sa_121 ba_121 (fun x => impl_exchange x.1 x.2.1 x.2.2.1 x.2.2.2.1 x.2.2.2.2.1 x.2.2.2.2.2.1) out_121
theorem ok_121 : ConOk Try.prog 130 c_121 := Con.shape_ok sem_121

/-! 101 -/
def C_122 : Cfg := { T := tab, hint := fun _ => { mu := [12], keepR := [3, 4, 5, 6, 7], res := [6, 7] }, mode := fun _ => .borrow }
noncomputable def O_122 : Oracle := Oracle.of [(130, c_121)]
noncomputable def L_122 : Loops := Loops.of []
theorem lf_122 : LoopsFn Try.prog C_122 O_122 101 L_122 := LoopsFn.nil' (by kernel_rfl)
def sa_122 : List S2 := [.one (.dat (.sl I)), .one (.dat I), .one (.dat I)]
def ba_122 : List SB := []
def out_122 (r : Bool × (List Int)) : AV × Store := outT [.one (.all 0), .one (.dat .bool)] [.data I] (r.1, r.2, ())
theorem w_122 (x : FAr sa_122 ba_122) : evF C_122 O_122 L_122 101 sa_122 ba_122 x =
 impl_MovePlaceK x.1 x.2.1 x.2.2.1 (fun r => some (out_122 r)) := by kernel_rfl
theorem sem_122 : SemF 101 sa_122 ba_122 (fun x => impl_MovePlace x.1 x.2.1 x.2.2.1) out_122 :=
 sem_of folP okP tabP (Oracle.of_ok (Oracle.cons_ok ok_121 Oracle.nil_ok)) lf_122 fun x => (w_122 x).trans (impl_MovePlace_eq x.1 x.2.1 x.2.2.1 _)
noncomputable def c_122 : Con := Con.shape sa_122 ba_122 (fun x => impl_MovePlace x.1 x.2.1 x.2.2.1) out_122
theorem ok_122 : ConOk Try.prog 101 c_122 := Con.shape_ok sem_122

/-! 45 -/
def C_123 : Cfg := { T := tab, hint := fun _ => { mu := [6, 8, 16, 22], keepR := [1, 2, 3, 6, 7, 8, 9, 10, 13, 26], res := [6, 7], fillR := true }, mode := fun _ => .borrow }
noncomputable def O_123 : Oracle := Oracle.of [(26, c_49), (56, c_56), (101, c_122)]
noncomputable def L_123 : Loops := Loops.of []
theorem lf_123 : LoopsFn Try.prog C_123 O_123 45 L_123 := LoopsFn.nil' (by kernel_rfl)
def sa_123 : List S2 := [.one (.dat tKernel), .one (.dat I), .one (.dat I)]
def ba_123 : List SB := []
def out_123 (r : Int × Int × Int × Int × Int × (List DEntry) × (List Int)) : AV × Store := outT [.agg [.dat I, .dat I, .dat I, .all 0, .all 1, .dat I], .one (.dat I)] [.data tEntry, .data I] (r.1, r.2.1, r.2.2.1, r.2.2.2.1, r.2.2.2.2.1, r.2.2.2.2.2.1, r.2.2.2.2.2.2, ())
theorem w_123 (x : FAr sa_123 ba_123) : evF C_123 O_123 L_123 45 sa_123 ba_123 x =
 impl_SysMoveK x.1 x.2.1 x.2.2.1 (fun r => some (out_123 r)) := by kernel_rfl
theorem sem_123 : SemF 45 sa_123 ba_123 (fun x => impl_SysMove x.1 x.2.1 x.2.2.1) out_123 :=
 sem_of folP okP tabP (Oracle.of_ok (Oracle.cons_ok ok_49 (Oracle.cons_ok ok_56 (Oracle.cons_ok ok_122 Oracle.nil_ok)))) lf_123 fun x => (w_123 x).trans (impl_SysMove_eq x.1 x.2.1 x.2.2.1 _)
noncomputable def c_123 : Con := Con.shape sa_123 ba_123 (fun x => impl_SysMove x.1 x.2.1 x.2.2.1) out_123
theorem ok_123 : ConOk Try.prog 45 c_123 := Con.shape_ok sem_123

/-! 10 -/
def C_124 : Cfg := { T := tab, hint := fun _ => { mu := [8, 10, 11, 16, 32, 37], keepR := [1, 2, 3, 6, 7, 8, 9, 10, 11, 12, 13, 14, 15, 16, 17, 22, 48, 53, 69, 77, 80, 97, 102, 105], res := [6], order := [(10, [(0, .read)] ++ tns .forced 1 4)] }, mode := modeOf [(35, .sub)] }
noncomputable def O_124 : Oracle := Oracle.of [(34, c_84), (35, c_87), (36, c_90), (42, c_109), (43, c_115), (44, c_119), (45, c_123)]
noncomputable def L_124 : Loops := Loops.of []
theorem lf_124 : LoopsFn Try.prog C_124 O_124 10 L_124 := LoopsFn.nil' (by kernel_rfl)
def sa_124 : List S2 := [.one (.dat tKernel), .one (.dat I), .one (.dat I)]
def ba_124 : List SB := []
def out_124 (r : Bool) : AV × Store := out1 (.one (.dat .bool)) [] (r, ())
theorem w_124 (x : FAr sa_124 ba_124) : evF C_124 O_124 L_124 10 sa_124 ba_124 x =
 laws_FnExactSysMoveK x.1 x.2.1 x.2.2.1 (fun r => some (out_124 r)) := by kernel_rfl
theorem sem_124 : SemF 10 sa_124 ba_124 (fun x => laws_FnExactSysMove x.1 x.2.1 x.2.2.1) out_124 :=
 sem_of folP okP tabP (Oracle.of_ok (Oracle.cons_ok ok_84 (Oracle.cons_ok ok_87 (Oracle.cons_ok ok_90 (Oracle.cons_ok ok_109 (Oracle.cons_ok ok_115 (Oracle.cons_ok ok_119 (Oracle.cons_ok ok_123 Oracle.nil_ok)))))))) lf_124 fun x => (w_124 x).trans (laws_FnExactSysMove_eq x.1 x.2.1 x.2.2.1 _)
noncomputable def c_124 : Con := Con.shape sa_124 ba_124 (fun x => laws_FnExactSysMove x.1 x.2.1 x.2.2.1) out_124
theorem ok_124 : ConOk Try.prog 10 c_124 := Con.shape_ok sem_124

/-! 46 -/
def C_125 : Cfg := { T := tab, hint := fun _ => { mu := [2, 4], keepR := [0, 2], res := [2] }, mode := modeOf [(52, .sub)] }
noncomputable def O_125 : Oracle := Oracle.of [(51, c_0), (52, c_31)]
noncomputable def L_125 : Loops := Loops.of []
theorem lf_125 : LoopsFn Try.prog C_125 O_125 46 L_125 := LoopsFn.nil' (by kernel_rfl)
def sa_125 : List S2 := [.one (.dat (.sl (.int .u8)))]
def ba_125 : List SB := []
def out_125 (r : Int × Int × Int × Int × (List DEntry) × (List Int)) : AV × Store := out1 (.agg [.dat I, .dat I, .dat I, .all 0, .all 1, .dat I]) [.data tEntry, .data I] (r.1, r.2.1, r.2.2.1, r.2.2.2.1, r.2.2.2.2.1, r.2.2.2.2.2, ())
theorem w_125 (x : FAr sa_125 ba_125) : evF C_125 O_125 L_125 46 sa_125 ba_125 x =
 spec_DrawKernelValidK x.1 (fun r => some (out_125 r)) := by kernel_rfl
theorem sem_125 : SemF 46 sa_125 ba_125 (fun x => spec_DrawKernelValid x.1) out_125 :=
 sem_of folP okP tabP (Oracle.of_ok (Oracle.cons_ok ok_0 (Oracle.cons_ok ok_31 Oracle.nil_ok))) lf_125 fun x => (w_125 x).trans (spec_DrawKernelValid_eq x.1 _)
noncomputable def c_125 : Con := Con.shape sa_125 ba_125 (fun x => spec_DrawKernelValid x.1) out_125
theorem ok_125 : ConOk Try.prog 46 c_125 := Con.shape_ok sem_125

/-! 11 -/
def C_126 : Cfg := { T := tab, hint := fun _ => { mu := [3, 5, 6, 25], keepR := [0, 2, 3, 4, 5, 6, 9, 17, 19], res := [2] }, mode := fun _ => .borrow }
noncomputable def O_126 : Oracle := Oracle.of [(23, c_12), (24, c_66), (26, c_49), (46, c_125)]
noncomputable def L_126 : Loops := Loops.of []
theorem lf_126 : LoopsFn Try.prog C_126 O_126 11 L_126 := LoopsFn.nil' (by kernel_rfl)
def sa_126 : List S2 := [.one (.dat (.sl (.int .u8)))]
def ba_126 : List SB := []
def out_126 (r : Bool) : AV × Store := out1 (.one (.dat .bool)) [] (r, ())
theorem w_126 (x : FAr sa_126 ba_126) : evF C_126 O_126 L_126 11 sa_126 ba_126 x =
 laws_FnKernelValidK x.1 (fun r => some (out_126 r)) := by kernel_rfl
theorem sem_126 : SemF 11 sa_126 ba_126 (fun x => laws_FnKernelValid x.1) out_126 :=
 sem_of folP okP tabP (Oracle.of_ok (Oracle.cons_ok ok_12 (Oracle.cons_ok ok_66 (Oracle.cons_ok ok_49 (Oracle.cons_ok ok_125 Oracle.nil_ok))))) lf_126 fun x => (w_126 x).trans (laws_FnKernelValid_eq x.1 _)
noncomputable def c_126 : Con := Con.shape sa_126 ba_126 (fun x => laws_FnKernelValid x.1) out_126
theorem ok_126 : ConOk Try.prog 11 c_126 := Con.shape_ok sem_126

/-! 12 -/
def C_127 : Cfg := { T := tab, hint := fun _ => { mu := [6, 8, 9, 14, 29, 33], keepR := [1, 2, 4, 5, 6, 7, 8, 9, 10, 11, 12, 13, 14, 15, 20, 44, 49, 65, 73, 76, 92, 97, 100], res := [4], order := [(10, [(0, .read)] ++ tns .forced 1 4)] }, mode := modeOf [(35, .sub)] }
noncomputable def O_127 : Oracle := Oracle.of [(34, c_84), (35, c_87), (36, c_90), (40, c_103), (42, c_109), (43, c_115), (47, c_25)]
noncomputable def L_127 : Loops := Loops.of []
theorem lf_127 : LoopsFn Try.prog C_127 O_127 12 L_127 := LoopsFn.nil' (by kernel_rfl)
def sa_127 : List S2 := [.one (.dat tKernel), .one (.dat I)]
def ba_127 : List SB := []
def out_127 (r : Bool) : AV × Store := out1 (.one (.dat .bool)) [] (r, ())
theorem w_127 (x : FAr sa_127 ba_127) : evF C_127 O_127 L_127 12 sa_127 ba_127 x =
 laws_FnExactSysDeleteK x.1 x.2.1 (fun r => some (out_127 r)) := by kernel_rfl
theorem sem_127 : SemF 12 sa_127 ba_127 (fun x => laws_FnExactSysDelete x.1 x.2.1) out_127 :=
 sem_of folP okP tabP (Oracle.of_ok (Oracle.cons_ok ok_84 (Oracle.cons_ok ok_87 (Oracle.cons_ok ok_90 (Oracle.cons_ok ok_103 (Oracle.cons_ok ok_109 (Oracle.cons_ok ok_115 (Oracle.cons_ok ok_25 Oracle.nil_ok)))))))) lf_127 fun x => (w_127 x).trans (laws_FnExactSysDelete_eq x.1 x.2.1 _)
noncomputable def c_127 : Con := Con.shape sa_127 ba_127 (fun x => laws_FnExactSysDelete x.1 x.2.1) out_127
theorem ok_127 : ConOk Try.prog 12 c_127 := Con.shape_ok sem_127

/-! 13 -/
def C_128 : Cfg := { T := tab, hint := fun _ => { mu := [12, 14, 15, 20, 38, 45], keepR := [1, 2, 3, 4, 5, 10, 11, 12, 13, 14, 15, 16, 17, 18, 19, 20, 21, 26, 56, 61, 77, 85, 88, 107, 112, 115], res := [10], order := [(10, [(0, .read)] ++ tns .forced 1 4)] }, mode := modeOf [(35, .sub)] }
noncomputable def O_128 : Oracle := Oracle.of [(20, c_62), (21, c_23), (34, c_84), (35, c_87), (36, c_90), (42, c_109), (43, c_115)]
noncomputable def L_128 : Loops := Loops.of []
theorem lf_128 : LoopsFn Try.prog C_128 O_128 13 L_128 := LoopsFn.nil' (by kernel_rfl)
def sa_128 : List S2 := [.one (.dat tKernel), .one (.dat I), .one (.dat I), .one (.dat I), .one (.dat I)]
def ba_128 : List SB := []
def out_128 (r : Bool) : AV × Store := out1 (.one (.dat .bool)) [] (r, ())
theorem w_128 (x : FAr sa_128 ba_128) : evF C_128 O_128 L_128 13 sa_128 ba_128 x =
 laws_FnExactSysMintK x.1 x.2.1 x.2.2.1 x.2.2.2.1 x.2.2.2.2.1 (fun r => some (out_128 r)) := by kernel_rfl
theorem sem_128 : SemF 13 sa_128 ba_128 (fun x => laws_FnExactSysMint x.1 x.2.1 x.2.2.1 x.2.2.2.1 x.2.2.2.2.1) out_128 :=
 sem_of folP okP tabP (Oracle.of_ok (Oracle.cons_ok ok_62 (Oracle.cons_ok ok_23 (Oracle.cons_ok ok_84 (Oracle.cons_ok ok_87 (Oracle.cons_ok ok_90 (Oracle.cons_ok ok_109 (Oracle.cons_ok ok_115 Oracle.nil_ok)))))))) lf_128 fun x => (w_128 x).trans (laws_FnExactSysMint_eq x.1 x.2.1 x.2.2.1 x.2.2.2.1 x.2.2.2.2.1 _)
noncomputable def c_128 : Con := Con.shape sa_128 ba_128 (fun x => laws_FnExactSysMint x.1 x.2.1 x.2.2.1 x.2.2.2.1 x.2.2.2.2.1) out_128
theorem ok_128 : ConOk Try.prog 13 c_128 := Con.shape_ok sem_128

/-! 14 -/
def C_129 : Cfg := { T := tab, hint := fun _ => { mu := [6, 8, 9, 14, 29, 33], keepR := [1, 2, 4, 5, 6, 7, 8, 9, 10, 11, 12, 13, 14, 15, 20, 44, 49, 65, 73, 76, 92, 97, 100], res := [4], order := [(10, [(0, .read)] ++ tns .forced 1 4)] }, mode := modeOf [(35, .sub)] }
noncomputable def O_129 : Oracle := Oracle.of [(34, c_84), (35, c_87), (36, c_90), (38, c_100), (39, c_29), (42, c_109), (43, c_115)]
noncomputable def L_129 : Loops := Loops.of []
theorem lf_129 : LoopsFn Try.prog C_129 O_129 14 L_129 := LoopsFn.nil' (by kernel_rfl)
def sa_129 : List S2 := [.one (.dat tKernel), .one (.dat I)]
def ba_129 : List SB := []
def out_129 (r : Bool) : AV × Store := out1 (.one (.dat .bool)) [] (r, ())
theorem w_129 (x : FAr sa_129 ba_129) : evF C_129 O_129 L_129 14 sa_129 ba_129 x =
 laws_FnExactSysRevokeK x.1 x.2.1 (fun r => some (out_129 r)) := by kernel_rfl
theorem sem_129 : SemF 14 sa_129 ba_129 (fun x => laws_FnExactSysRevoke x.1 x.2.1) out_129 :=
 sem_of folP okP tabP (Oracle.of_ok (Oracle.cons_ok ok_84 (Oracle.cons_ok ok_87 (Oracle.cons_ok ok_90 (Oracle.cons_ok ok_100 (Oracle.cons_ok ok_29 (Oracle.cons_ok ok_109 (Oracle.cons_ok ok_115 Oracle.nil_ok)))))))) lf_129 fun x => (w_129 x).trans (laws_FnExactSysRevoke_eq x.1 x.2.1 _)
noncomputable def c_129 : Con := Con.shape sa_129 ba_129 (fun x => laws_FnExactSysRevoke x.1 x.2.1) out_129
theorem ok_129 : ConOk Try.prog 14 c_129 := Con.shape_ok sem_129

/-! 15 -/
def C_130 : Cfg := { T := tab, hint := fun _ => { mu := [8, 10, 11, 16, 32, 37], keepR := [1, 2, 3, 6, 7, 8, 9, 10, 11, 12, 13, 14, 15, 16, 17, 22, 48, 53, 69, 77, 80, 97, 102, 105], res := [6], order := [(10, [(0, .read)] ++ tns .forced 1 4)] }, mode := modeOf [(35, .sub)] }
noncomputable def O_130 : Oracle := Oracle.of [(29, c_73), (30, c_19), (34, c_84), (35, c_87), (36, c_90), (42, c_109), (43, c_115)]
noncomputable def L_130 : Loops := Loops.of []
theorem lf_130 : LoopsFn Try.prog C_130 O_130 15 L_130 := LoopsFn.nil' (by kernel_rfl)
def sa_130 : List S2 := [.one (.dat tKernel), .one (.dat I), .one (.dat I)]
def ba_130 : List SB := []
def out_130 (r : Bool) : AV × Store := out1 (.one (.dat .bool)) [] (r, ())
theorem w_130 (x : FAr sa_130 ba_130) : evF C_130 O_130 L_130 15 sa_130 ba_130 x =
 laws_FnExactSysRetypeK x.1 x.2.1 x.2.2.1 (fun r => some (out_130 r)) := by kernel_rfl
theorem sem_130 : SemF 15 sa_130 ba_130 (fun x => laws_FnExactSysRetype x.1 x.2.1 x.2.2.1) out_130 :=
 sem_of folP okP tabP (Oracle.of_ok (Oracle.cons_ok ok_73 (Oracle.cons_ok ok_19 (Oracle.cons_ok ok_84 (Oracle.cons_ok ok_87 (Oracle.cons_ok ok_90 (Oracle.cons_ok ok_109 (Oracle.cons_ok ok_115 Oracle.nil_ok)))))))) lf_130 fun x => (w_130 x).trans (laws_FnExactSysRetype_eq x.1 x.2.1 x.2.2.1 _)
noncomputable def c_130 : Con := Con.shape sa_130 ba_130 (fun x => laws_FnExactSysRetype x.1 x.2.1 x.2.2.1) out_130
theorem ok_130 : ConOk Try.prog 15 c_130 := Con.shape_ok sem_130

/-! 16 -/
def C_131 : Cfg := { T := tab, hint := fun _ => { mu := [3, 5, 7], keepR := [0, 2, 3, 4, 5, 6, 7, 8, 9, 12, 38, 40, 56, 74], res := [2], order := [(13, [(0, .read), (1, .forced), (2, .forced), (3, .forced)] ++ tns .read 4 7 ++ tns .forced 11 5), (15, [(0, .forced), (1, .forced), (2, .forced), (3, .read), (4, .read)] ++ tns .forced 5 6 ++ tns .read 11 4 ++ tns .forced 15 8)], keepL := [(0, [3, 4, 5, 9])], keepX := [(0, [3, 4, 5]), (1, [3, 4, 5, 9])] }, mode := fun _ => .borrow }
noncomputable def O_131 : Oracle := Oracle.of [(22, c_65), (23, c_12), (24, c_66), (26, c_49), (40, c_103), (47, c_25), (48, c_92)]
def sh_131_l0 : List (Nat × S2) := [(3, .one (.ptr 0 0 0)), (4, .one (.dat I)), (5, .one (.ptr 1 0 0)), (9, .one (.dat I))]
def bs_131_l0 : List SB := [.var [.dat I, .dat I, .dat I, .dat (.sl tEntry), .dat (.sl I), .dat I], .var [.dat I, .dat I, .dat I, .dat (.sl tEntry), .dat (.sl I), .dat I]]
def xs_131_l0 : List (Nat × S2) := [(3, .one (.ptr 0 0 0)), (4, .one (.dat I)), (5, .one (.ptr 1 0 0))]
def xb_131_l0 : List SB := [.var [.dat I, .dat I, .dat I, .dat (.sl tEntry), .dat (.sl I), .dat I], .var [.dat I, .dat I, .dat I, .dat (.sl tEntry), .dat (.sl I), .dat I]]
def ys_131_l0 : List (Nat × S2) := [(2, .one (.dat .bool))]
def yb_131_l0 : List SB := []
noncomputable def lc_131_l0 : LCon := LCon.shape sh_131_l0 bs_131_l0 laws_FnSysDelete_l0 (fun a => (.exit 0, encSt xs_131_l0 xb_131_l0 a)) (fun b => encSt ys_131_l0 yb_131_l0 b)
noncomputable def L_131 : Loops := Loops.of [(0, lc_131_l0)]
theorem r_131_l0 (x : FSt sh_131_l0 bs_131_l0) : rdF C_131 O_131 L_131 16 0 0 sh_131_l0 bs_131_l0 x =
 laws_FnSysDelete_l0K x.1 x.2.1 x.2.2.1 x.2.2.2.1 x.2.2.2.2.1 x.2.2.2.2.2.1 x.2.2.2.2.2.2.1 x.2.2.2.2.2.2.2.1 x.2.2.2.2.2.2.2.2.1 x.2.2.2.2.2.2.2.2.2.1 x.2.2.2.2.2.2.2.2.2.2.1 x.2.2.2.2.2.2.2.2.2.2.2.1 x.2.2.2.2.2.2.2.2.2.2.2.2.1 x.2.2.2.2.2.2.2.2.2.2.2.2.2.1 (fun y => some (Ex.normal, encSt sh_131_l0 bs_131_l0 y)) (fun a => some (Ex.exit 0, encSt xs_131_l0 xb_131_l0 a)) (fun b => some (Ex.ret, encSt ys_131_l0 yb_131_l0 b)) := by kernel_rfl
theorem lo_131_l0 : loF C_131 O_131 L_131 16 0 0 lc_131_l0 :=
 LCon.shape_ok (fun a => by simp) fun x => (r_131_l0 x).trans (laws_FnSysDelete_l0_eq x.1 x.2.1 x.2.2.1 x.2.2.2.1 x.2.2.2.2.1 x.2.2.2.2.2.1 x.2.2.2.2.2.2.1 x.2.2.2.2.2.2.2.1 x.2.2.2.2.2.2.2.2.1 x.2.2.2.2.2.2.2.2.2.1 x.2.2.2.2.2.2.2.2.2.2.1 x.2.2.2.2.2.2.2.2.2.2.2.1 x.2.2.2.2.2.2.2.2.2.2.2.2.1 x.2.2.2.2.2.2.2.2.2.2.2.2.2.1 _ _ _)
theorem lf_131 : LoopsFn Try.prog C_131 O_131 16 L_131 := LoopsFn.all (by kernel_rfl) (by decide) ⟨lo_131_l0, trivial⟩
def sa_131 : List S2 := [.one (.dat (.sl (.int .u8)))]
def ba_131 : List SB := []
def out_131 (r : Bool) : AV × Store := out1 (.one (.dat .bool)) [] (r, ())
theorem w_131 (x : FAr sa_131 ba_131) : evF C_131 O_131 L_131 16 sa_131 ba_131 x =
 laws_FnSysDeleteK x.1 (fun r => some (out_131 r)) := by kernel_rfl
theorem sem_131 : SemF 16 sa_131 ba_131 (fun x => laws_FnSysDelete x.1) out_131 :=
 sem_of folP okP tabP (Oracle.of_ok (Oracle.cons_ok ok_65 (Oracle.cons_ok ok_12 (Oracle.cons_ok ok_66 (Oracle.cons_ok ok_49 (Oracle.cons_ok ok_103 (Oracle.cons_ok ok_25 (Oracle.cons_ok ok_92 Oracle.nil_ok)))))))) lf_131 fun x => (w_131 x).trans (laws_FnSysDelete_eq x.1 _)
noncomputable def c_131 : Con := Con.shape sa_131 ba_131 (fun x => laws_FnSysDelete x.1) out_131
theorem ok_131 : ConOk Try.prog 16 c_131 := Con.shape_ok sem_131

/-! 49 -/
def C_132 : Cfg := { T := tab, hint := fun _ => { mu := [2, 6, 9], keepR := [0, 2, 3, 4, 5, 6, 7], res := [2, 3, 4], order := [(4, [(2, .read), (3, .read), (1, .pure), (0, .aside [1, 2, 3])] ++ tns .forced 4 4)] }, mode := modeOf [(52, .sub), (53, .sub)] }
noncomputable def O_132 : Oracle := Oracle.of [(51, c_0), (52, c_31), (53, c_32)]
noncomputable def L_132 : Loops := Loops.of []
theorem lf_132 : LoopsFn Try.prog C_132 O_132 49 L_132 := LoopsFn.nil' (by kernel_rfl)
def sa_132 : List S2 := [.one (.dat (.sl (.int .u8)))]
def ba_132 : List SB := []
def out_132 (r : Int × Int × Int × Int × Int × Int × (List DEntry) × (List Int)) : AV × Store := outT [.agg [.dat I, .dat I, .dat I, .all 0, .all 1, .dat I], .one (.dat I), .one (.dat I)] [.data tEntry, .data I] (r.1, r.2.1, r.2.2.1, r.2.2.2.1, r.2.2.2.2.1, r.2.2.2.2.2.1, r.2.2.2.2.2.2.1, r.2.2.2.2.2.2.2, ())
theorem w_132 (x : FAr sa_132 ba_132) : evF C_132 O_132 L_132 49 sa_132 ba_132 x =
 spec_DrawSysMoveK x.1 (fun r => some (out_132 r)) := by kernel_rfl
theorem sem_132 : SemF 49 sa_132 ba_132 (fun x => spec_DrawSysMove x.1) out_132 :=
 sem_of folP okP tabP (Oracle.of_ok (Oracle.cons_ok ok_0 (Oracle.cons_ok ok_31 (Oracle.cons_ok ok_32 Oracle.nil_ok)))) lf_132 fun x => (w_132 x).trans (spec_DrawSysMove_eq x.1 _)
noncomputable def c_132 : Con := Con.shape sa_132 ba_132 (fun x => spec_DrawSysMove x.1) out_132
theorem ok_132 : ConOk Try.prog 49 c_132 := Con.shape_ok sem_132

/-! 17 -/
def C_133 : Cfg := { T := tab, hint := fun _ => { mu := [3, 6, 8, 10], keepR := [0, 2, 3, 4, 5, 6, 7, 8, 9, 10, 11, 14, 43, 45], res := [2], order := [(11, [(0, .forced), (1, .forced), (2, .forced), (3, .read), (4, .read)] ++ tns .forced 5 5 ++ tns .read 10 7 ++ tns .forced 17 6 ++ [(23, .read), (24, .read)] ++ tns .forced 25 10 ++ [(35, .read)] ++ tns .forced 36 4)] }, mode := fun _ => .borrow }
noncomputable def O_133 : Oracle := Oracle.of [(22, c_65), (23, c_12), (24, c_66), (26, c_49), (31, c_63), (44, c_119), (45, c_123), (49, c_132)]
noncomputable def L_133 : Loops := Loops.of []
theorem lf_133 : LoopsFn Try.prog C_133 O_133 17 L_133 := LoopsFn.nil' (by kernel_rfl)
def sa_133 : List S2 := [.one (.dat (.sl (.int .u8)))]
def ba_133 : List SB := []
def out_133 (r : Bool) : AV × Store := out1 (.one (.dat .bool)) [] (r, ())
theorem w_133 (x : FAr sa_133 ba_133) : evF C_133 O_133 L_133 17 sa_133 ba_133 x =
 laws_FnSysMoveK x.1 (fun r => some (out_133 r)) := by kernel_rfl
theorem sem_133 : SemF 17 sa_133 ba_133 (fun x => laws_FnSysMove x.1) out_133 :=
 sem_of folP okP tabP (Oracle.of_ok (Oracle.cons_ok ok_65 (Oracle.cons_ok ok_12 (Oracle.cons_ok ok_66 (Oracle.cons_ok ok_49 (Oracle.cons_ok ok_63 (Oracle.cons_ok ok_119 (Oracle.cons_ok ok_123 (Oracle.cons_ok ok_132 Oracle.nil_ok))))))))) lf_133 fun x => (w_133 x).trans (laws_FnSysMove_eq x.1 _)
noncomputable def c_133 : Con := Con.shape sa_133 ba_133 (fun x => laws_FnSysMove x.1) out_133
theorem ok_133 : ConOk Try.prog 17 c_133 := Con.shape_ok sem_133

/-! 50 -/
def C_134 : Cfg := { T := tab, hint := fun _ => { mu := [4, 11], keepR := [0, 1, 4, 8], res := [4] }, mode := fun _ => .borrow }
noncomputable def O_134 : Oracle := Oracle.of [(103, c_59), (104, c_94)]
noncomputable def L_134 : Loops := Loops.of []
theorem lf_134 : LoopsFn Try.prog C_134 O_134 50 L_134 := LoopsFn.nil' (by kernel_rfl)
def sa_134 : List S2 := [.one (.dat (.sl tEntry)), .one (.dat I)]
def ba_134 : List SB := []
def out_134 (r : (List Int)) : AV × Store := out1 (.one (.all 0)) [.data I] (r, ())
theorem w_134 (x : FAr sa_134 ba_134) : evF C_134 O_134 L_134 50 sa_134 ba_134 x =
 impl_DescendantsK x.1 x.2.1 (fun r => some (out_134 r)) := by kernel_rfl
theorem sem_134 : SemF 50 sa_134 ba_134 (fun x => impl_Descendants x.1 x.2.1) out_134 :=
 sem_of folP okP tabP (Oracle.of_ok (Oracle.cons_ok ok_59 (Oracle.cons_ok ok_94 Oracle.nil_ok))) lf_134 fun x => (w_134 x).trans (impl_Descendants_eq x.1 x.2.1 _)
noncomputable def c_134 : Con := Con.shape sa_134 ba_134 (fun x => impl_Descendants x.1 x.2.1) out_134
theorem ok_134 : ConOk Try.prog 50 c_134 := Con.shape_ok sem_134

/-! 18 -/
def C_135 : Cfg := { T := tab, hint := fun _ => { mu := [3, 5, 7], keepR := [0, 2, 3, 4, 5, 6, 7, 8, 9, 10, 11, 12, 13, 16, 42, 44, 68, 81, 87, 112], res := [2], order := [(10, tns .read 0 4 ++ tns .forced 4 5), (15, tns .read 0 7 ++ tns .forced 7 4), (21, [(0, .forced), (1, .forced)] ++ tns .read 2 6 ++ tns .forced 8 6), (24, [(0, .forced), (1, .forced), (2, .forced), (3, .read)] ++ tns .forced 4 5 ++ tns .read 9 7 ++ tns .forced 16 6)], keepL := [(0, [3, 4, 5, 9, 10, 11]), (2, [3, 4, 5, 9, 10, 11, 12, 13])], keepX := [(0, [3, 4, 5, 9, 10]), (1, [3, 4, 5, 9, 10, 11]), (2, [3, 4, 5, 9, 10, 11, 12]), (3, [3, 4, 5, 9, 10, 11, 12, 13])] }, mode := fun _ => .borrow }
noncomputable def O_135 : Oracle := Oracle.of [(22, c_65), (23, c_12), (24, c_66), (26, c_49), (37, c_93), (38, c_100), (39, c_29), (50, c_134)]
def sh_135_l0 : List (Nat × S2) := [(3, .one (.ptr 0 0 0)), (4, .one (.dat I)), (5, .one (.ptr 1 0 0)), (9, .one (.dat (.sl I))), (10, .one (.dat I)), (11, .one (.dat I))]
def bs_135_l0 : List SB := [.var [.dat I, .dat I, .dat I, .dat (.sl tEntry), .dat (.sl I), .dat I], .var [.dat I, .dat I, .dat I, .dat (.sl tEntry), .dat (.sl I), .dat I]]
def xs_135_l0 : List (Nat × S2) := [(3, .one (.ptr 0 0 0)), (4, .one (.dat I)), (5, .one (.ptr 1 0 0)), (9, .one (.dat (.sl I))), (10, .one (.dat I))]
def xb_135_l0 : List SB := [.var [.dat I, .dat I, .dat I, .dat (.sl tEntry), .dat (.sl I), .dat I], .var [.dat I, .dat I, .dat I, .dat (.sl tEntry), .dat (.sl I), .dat I]]
def ys_135_l0 : List (Nat × S2) := [(2, .one (.dat .bool))]
def yb_135_l0 : List SB := []
noncomputable def lc_135_l0 : LCon := LCon.shape sh_135_l0 bs_135_l0 laws_FnSysRevoke_l0 (fun a => (.exit 0, encSt xs_135_l0 xb_135_l0 a)) (fun b => encSt ys_135_l0 yb_135_l0 b)
def sh_135_l2 : List (Nat × S2) := [(3, .one (.ptr 0 0 0)), (4, .one (.dat I)), (5, .one (.ptr 1 0 0)), (9, .one (.dat (.sl I))), (10, .one (.dat I)), (11, .one (.dat I)), (12, .one (.dat .bool)), (13, .one (.dat I))]
def bs_135_l2 : List SB := [.var [.dat I, .dat I, .dat I, .dat (.sl tEntry), .dat (.sl I), .dat I], .var [.dat I, .dat I, .dat I, .dat (.sl tEntry), .dat (.sl I), .dat I]]
def xs_135_l2 : List (Nat × S2) := [(3, .one (.ptr 0 0 0)), (4, .one (.dat I)), (5, .one (.ptr 1 0 0)), (9, .one (.dat (.sl I))), (10, .one (.dat I)), (11, .one (.dat I)), (12, .one (.dat .bool))]
def xb_135_l2 : List SB := [.var [.dat I, .dat I, .dat I, .dat (.sl tEntry), .dat (.sl I), .dat I], .var [.dat I, .dat I, .dat I, .dat (.sl tEntry), .dat (.sl I), .dat I]]
noncomputable def lc_135_l2 : LCon := LCon.shape1 sh_135_l2 bs_135_l2 laws_FnSysRevoke_l2 (fun a => (.exit 2, encSt xs_135_l2 xb_135_l2 a))
noncomputable def L_135 : Loops := Loops.of [(0, lc_135_l0), (2, lc_135_l2)]
theorem r_135_l0 (x : FSt sh_135_l0 bs_135_l0) : rdF C_135 O_135 L_135 18 0 0 sh_135_l0 bs_135_l0 x =
 laws_FnSysRevoke_l0K x.1 x.2.1 x.2.2.1 x.2.2.2.1 x.2.2.2.2.1 x.2.2.2.2.2.1 x.2.2.2.2.2.2.1 x.2.2.2.2.2.2.2.1 x.2.2.2.2.2.2.2.2.1 x.2.2.2.2.2.2.2.2.2.1 x.2.2.2.2.2.2.2.2.2.2.1 x.2.2.2.2.2.2.2.2.2.2.2.1 x.2.2.2.2.2.2.2.2.2.2.2.2.1 x.2.2.2.2.2.2.2.2.2.2.2.2.2.1 x.2.2.2.2.2.2.2.2.2.2.2.2.2.2.1 x.2.2.2.2.2.2.2.2.2.2.2.2.2.2.2.1 (fun y => some (Ex.normal, encSt sh_135_l0 bs_135_l0 y)) (fun a => some (Ex.exit 0, encSt xs_135_l0 xb_135_l0 a)) (fun b => some (Ex.ret, encSt ys_135_l0 yb_135_l0 b)) := by kernel_rfl
theorem lo_135_l0 : loF C_135 O_135 L_135 18 0 0 lc_135_l0 :=
 LCon.shape_ok (fun a => by simp) fun x => (r_135_l0 x).trans (laws_FnSysRevoke_l0_eq x.1 x.2.1 x.2.2.1 x.2.2.2.1 x.2.2.2.2.1 x.2.2.2.2.2.1 x.2.2.2.2.2.2.1 x.2.2.2.2.2.2.2.1 x.2.2.2.2.2.2.2.2.1 x.2.2.2.2.2.2.2.2.2.1 x.2.2.2.2.2.2.2.2.2.2.1 x.2.2.2.2.2.2.2.2.2.2.2.1 x.2.2.2.2.2.2.2.2.2.2.2.2.1 x.2.2.2.2.2.2.2.2.2.2.2.2.2.1 x.2.2.2.2.2.2.2.2.2.2.2.2.2.2.1 x.2.2.2.2.2.2.2.2.2.2.2.2.2.2.2.1 _ _ _)
theorem r_135_l2 (x : FSt sh_135_l2 bs_135_l2) : rdF C_135 O_135 L_135 18 2 1 sh_135_l2 bs_135_l2 x =
 laws_FnSysRevoke_l2K x.1 x.2.1 x.2.2.1 x.2.2.2.1 x.2.2.2.2.1 x.2.2.2.2.2.1 x.2.2.2.2.2.2.1 x.2.2.2.2.2.2.2.1 x.2.2.2.2.2.2.2.2.1 x.2.2.2.2.2.2.2.2.2.1 x.2.2.2.2.2.2.2.2.2.2.1 x.2.2.2.2.2.2.2.2.2.2.2.1 x.2.2.2.2.2.2.2.2.2.2.2.2.1 x.2.2.2.2.2.2.2.2.2.2.2.2.2.1 x.2.2.2.2.2.2.2.2.2.2.2.2.2.2.1 x.2.2.2.2.2.2.2.2.2.2.2.2.2.2.2.1 x.2.2.2.2.2.2.2.2.2.2.2.2.2.2.2.2.1 x.2.2.2.2.2.2.2.2.2.2.2.2.2.2.2.2.2.1 (fun y => some (Ex.normal, encSt sh_135_l2 bs_135_l2 y)) (fun a => some (Ex.exit 2, encSt xs_135_l2 xb_135_l2 a)) := by kernel_rfl
theorem lo_135_l2 : loF C_135 O_135 L_135 18 2 1 lc_135_l2 :=
 LCon.shape1_ok (fun a => by simp) fun x => (r_135_l2 x).trans (laws_FnSysRevoke_l2_eq x.1 x.2.1 x.2.2.1 x.2.2.2.1 x.2.2.2.2.1 x.2.2.2.2.2.1 x.2.2.2.2.2.2.1 x.2.2.2.2.2.2.2.1 x.2.2.2.2.2.2.2.2.1 x.2.2.2.2.2.2.2.2.2.1 x.2.2.2.2.2.2.2.2.2.2.1 x.2.2.2.2.2.2.2.2.2.2.2.1 x.2.2.2.2.2.2.2.2.2.2.2.2.1 x.2.2.2.2.2.2.2.2.2.2.2.2.2.1 x.2.2.2.2.2.2.2.2.2.2.2.2.2.2.1 x.2.2.2.2.2.2.2.2.2.2.2.2.2.2.2.1 x.2.2.2.2.2.2.2.2.2.2.2.2.2.2.2.2.1 x.2.2.2.2.2.2.2.2.2.2.2.2.2.2.2.2.2.1 _ _)
theorem lf_135 : LoopsFn Try.prog C_135 O_135 18 L_135 := LoopsFn.all (by kernel_rfl) (by decide) ⟨lo_135_l0, lo_135_l2, trivial⟩
def sa_135 : List S2 := [.one (.dat (.sl (.int .u8)))]
def ba_135 : List SB := []
def out_135 (r : Bool) : AV × Store := out1 (.one (.dat .bool)) [] (r, ())
theorem w_135 (x : FAr sa_135 ba_135) : evF C_135 O_135 L_135 18 sa_135 ba_135 x =
 laws_FnSysRevokeK x.1 (fun r => some (out_135 r)) := by kernel_rfl
theorem sem_135 : SemF 18 sa_135 ba_135 (fun x => laws_FnSysRevoke x.1) out_135 :=
 sem_of folP okP tabP (Oracle.of_ok (Oracle.cons_ok ok_65 (Oracle.cons_ok ok_12 (Oracle.cons_ok ok_66 (Oracle.cons_ok ok_49 (Oracle.cons_ok ok_93 (Oracle.cons_ok ok_100 (Oracle.cons_ok ok_29 (Oracle.cons_ok ok_134 Oracle.nil_ok))))))))) lf_135 fun x => (w_135 x).trans (laws_FnSysRevoke_eq x.1 _)
noncomputable def c_135 : Con := Con.shape sa_135 ba_135 (fun x => laws_FnSysRevoke x.1) out_135
theorem ok_135 : ConOk Try.prog 18 c_135 := Con.shape_ok sem_135

end Go.Ev
