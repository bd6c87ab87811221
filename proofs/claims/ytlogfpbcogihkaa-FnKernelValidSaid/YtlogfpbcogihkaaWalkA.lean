/-
  The walks: the program computes what the functions of plain data compute, wherever these come to a result; printed by a program of the prover.
-/
import Derived.Test.YtlogfpbcogihkaaDefs
import Derived.Test.YtlogfpbcogihkaaProg
import Derived.Test.YtlogfpbcogihkaaAlive
namespace Go.Ev
open Go.Proofs
set_option linter.unusedVariables false
set_option linter.unusedSimpArgs false
set_option maxRecDepth 100000
def tys : List (Nat × Ty) := [(3, I), (4, .bool), (5, (.int .u8)), (22, (.sl (.int .u8))), (24, tPiece), (25, (.sl tEntry)), (26, (.sl I)), (28, tKernel), (37, tCap), (39, tEntry), (54, tPiece), (55, (.sl tEntry)), (57, tKernel), (105, tl20Rd), (118, (.int .u64)), (124, tCap), (126, tEntry), (128, (.sl .bool)), (133, (.int .u64))]
def tups : List (Nat × List Ty) := [(29, [tKernel, I, I, I, I]), (31, [tKernel, I]), (43, [tKernel, I, I]), (52, [I, I]), (77, [.bool, .bool]), (89, [tPiece, (.sl I), .bool]), (106, [tCap, .bool]), (119, [(.int .u64), (.int .u64)]), (134, [(.int .u64), (.int .u64)])]
def tab : Tab := tabOf tys tups
theorem okP : progOk Try.prog = true := by kernel_rfl
theorem tabP : TabOk Try.prog tab := tabOf_ok (by kernel_rfl)
theorem folP : Try.prog.follows .mixedOrders = true := by kernel_rfl
/-! 51 -/
def C_spec_l20Open : Cfg := { T := tab, hint := fun _ => { mu := [10], keepR := [0, 2, 5], res := [2] }, mode := fun _ => .borrow }
noncomputable def O_spec_l20Open : Oracle := Oracle.of []
noncomputable def L_spec_l20Open : Loops := Loops.of []
theorem lf_spec_l20Open : LoopsFn Try.prog C_spec_l20Open O_spec_l20Open 51 L_spec_l20Open := LoopsFn.nil' (by kernel_rfl)
def out_spec_l20Open (r : Dl20Rd) : AV × Store := out1 (.one (.ptr 0 0 0)) [.one tl20Rd] (r, ())
theorem w_spec_l20Open (x : FAr [.one (.dat (.sl (.int .u8)))] []) : evBodyK Try.prog C_spec_l20Open O_spec_l20Open L_spec_l20Open 51 (encAr [.one (.dat (.sl (.int .u8)))] [] x).1 (encAr [.one (.dat (.sl (.int .u8)))] [] x).2 (fun v s => some (v, s)) =
    spec_l20OpenK x.1 (fun r => some (out_spec_l20Open r)) := by kernel_rfl
theorem sem_spec_l20Open : ∀ x y, (fun x => spec_l20Open x.1) x = some y → SemCall Try.prog 51 (encAr [.one (.dat (.sl (.int .u8)))] [] x).1 (encAr [.one (.dat (.sl (.int .u8)))] [] x).2 (out_spec_l20Open y).1 (out_spec_l20Open y).2 :=
  sem_of folP okP tabP (Oracle.of_ok Oracle.nil_ok) lf_spec_l20Open fun x => (w_spec_l20Open x).trans (spec_l20Open_eq x.1 _)
noncomputable def c_spec_l20Open : Con := Con.shape [.one (.dat (.sl (.int .u8)))] [] (fun x => spec_l20Open x.1) out_spec_l20Open
theorem ok_spec_l20Open : ConOk Try.prog 51 c_spec_l20Open := Con.shape_ok sem_spec_l20Open

/-! 55 -/
def C_spec_l20Rd_pick : Cfg := { T := tab, hint := fun _ => { keepR := [0, 1, 4, 5, 6, 24, 36], res := [4], base := 1, order := [(7, [(0, .read), (1, .read), (2, .read), (3, .read), (4, .read), (5, .read), (6, .read), (7, .read), (8, .read), (9, .read), (10, .read), (11, .read), (12, .read), (13, .read), (14, .read), (15, .read), (16, .read), (17, .read), (18, .read), (19, .read), (20, .read), (21, .read), (22, .read), (23, .read), (24, .read), (25, .read), (26, .read), (27, .read), (28, .read), (29, .read), (30, .read), (31, .read), (32, .read), (33, .read), (34, .read), (35, .read), (36, .read), (37, .forced), (38, .forced), (39, .forced), (40, .forced), (41, .forced), (42, .forced), (43, .forced), (44, .forced), (45, .forced)])] }, mode := fun _ => .borrow }
noncomputable def O_spec_l20Rd_pick : Oracle := Oracle.of []
noncomputable def L_spec_l20Rd_pick : Loops := Loops.of []
theorem lf_spec_l20Rd_pick : LoopsFn Try.prog C_spec_l20Rd_pick O_spec_l20Rd_pick 55 L_spec_l20Rd_pick := LoopsFn.nil' (by kernel_rfl)
def out_spec_l20Rd_pick (r : Int × Dl20Rd) : AV × Store := out1 (.one (.dat I)) [.one tl20Rd] (r.1, r.2, ())
theorem w_spec_l20Rd_pick (x : FAr [.one (.ptr 0 0 0), .one (.dat I)] [.one tl20Rd]) : evBodyK Try.prog C_spec_l20Rd_pick O_spec_l20Rd_pick L_spec_l20Rd_pick 55 (encAr [.one (.ptr 0 0 0), .one (.dat I)] [.one tl20Rd] x).1 (encAr [.one (.ptr 0 0 0), .one (.dat I)] [.one tl20Rd] x).2 (fun v s => some (v, s)) =
    spec_l20Rd_pickK x.1 x.2.1 (fun r => some (out_spec_l20Rd_pick r)) := by kernel_rfl
theorem sem_spec_l20Rd_pick : ∀ x y, (fun x => spec_l20Rd_pick x.1 x.2.1) x = some y → SemCall Try.prog 55 (encAr [.one (.ptr 0 0 0), .one (.dat I)] [.one tl20Rd] x).1 (encAr [.one (.ptr 0 0 0), .one (.dat I)] [.one tl20Rd] x).2 (out_spec_l20Rd_pick y).1 (out_spec_l20Rd_pick y).2 :=
  sem_of folP okP tabP (Oracle.of_ok Oracle.nil_ok) lf_spec_l20Rd_pick fun x => (w_spec_l20Rd_pick x).trans (spec_l20Rd_pick_eq x.1 x.2.1 _)
noncomputable def c_spec_l20Rd_pick : Con := Con.shape [.one (.ptr 0 0 0), .one (.dat I)] [.one tl20Rd] (fun x => spec_l20Rd_pick x.1 x.2.1) out_spec_l20Rd_pick
theorem ok_spec_l20Rd_pick : ConOk Try.prog 55 c_spec_l20Rd_pick := Con.shape_ok sem_spec_l20Rd_pick

/-! 67 -/
def C_spec_l1In : Cfg := { T := tab, hint := fun _ => { keepR := [0, 1, 2, 6], res := [6] }, mode := fun _ => .borrow }
noncomputable def O_spec_l1In : Oracle := Oracle.of []
noncomputable def L_spec_l1In : Loops := Loops.of []
theorem lf_spec_l1In : LoopsFn Try.prog C_spec_l1In O_spec_l1In 67 L_spec_l1In := LoopsFn.nil' (by kernel_rfl)
def out_spec_l1In (r : Bool) : AV × Store := out1 (.one (.dat .bool)) [] (r, ())
theorem w_spec_l1In (x : FAr [.one (.dat I), .one (.dat I), .one (.dat I)] []) : evBodyK Try.prog C_spec_l1In O_spec_l1In L_spec_l1In 67 (encAr [.one (.dat I), .one (.dat I), .one (.dat I)] [] x).1 (encAr [.one (.dat I), .one (.dat I), .one (.dat I)] [] x).2 (fun v s => some (v, s)) =
    spec_l1InK x.1 x.2.1 x.2.2.1 (fun r => some (out_spec_l1In r)) := by kernel_rfl
theorem sem_spec_l1In : ∀ x y, (fun x => spec_l1In x.1 x.2.1 x.2.2.1) x = some y → SemCall Try.prog 67 (encAr [.one (.dat I), .one (.dat I), .one (.dat I)] [] x).1 (encAr [.one (.dat I), .one (.dat I), .one (.dat I)] [] x).2 (out_spec_l1In y).1 (out_spec_l1In y).2 :=
  sem_of folP okP tabP (Oracle.of_ok Oracle.nil_ok) lf_spec_l1In fun x => (w_spec_l1In x).trans (spec_l1In_eq x.1 x.2.1 x.2.2.1 _)
noncomputable def c_spec_l1In : Con := Con.shape [.one (.dat I), .one (.dat I), .one (.dat I)] [] (fun x => spec_l1In x.1 x.2.1 x.2.2.1) out_spec_l1In
theorem ok_spec_l1In : ConOk Try.prog 67 c_spec_l1In := Con.shape_ok sem_spec_l1In

/-! 32 -/
def C_spec_NewKernel : Cfg := { T := tab, hint := fun _ => { mu := [4, 5, 27], keepR := [0, 1, 4, 5, 6, 14, 21], res := [4], keepL := [(0, [1, 4, 5, 6])], keepX := [(0, [4, 5]), (1, [1, 4, 5, 6])], fill := [(0, [1, 4, 5, 6])], fillR := true }, mode := fun _ => .borrow }
noncomputable def O_spec_NewKernel : Oracle := Oracle.of [(67, c_spec_l1In)]
def sh_spec_NewKernel_l0 : List (Nat × S2) := [(1, .one (.dat I)), (4, .one (.ptr 0 0 0)), (5, .one (.ptr 1 0 0)), (6, .one (.dat I))]
def bs_spec_NewKernel_l0 : List SB := [.var [.dat I, .dat I, .dat I, .all 2, .all 3, .dat I], .var [.dat I, .dat I, .dat I, .all 4, .all 5, .dat I], .data tEntry, .data I, .data tEntry, .data I]
noncomputable def lc_spec_NewKernel_l0 : LCon := LCon.shape1 sh_spec_NewKernel_l0 bs_spec_NewKernel_l0 spec_NewKernel_l0 (fun a => (.exit 0, encSt [(4, .one (.ptr 0 0 0)), (5, .one (.ptr 1 0 0))] [.var [.dat I, .dat I, .dat I, .all 2, .all 3, .dat I], .var [.dat I, .dat I, .dat I, .all 4, .all 5, .dat I], .data tEntry, .data I, .data tEntry, .data I] a))
noncomputable def L_spec_NewKernel : Loops := Loops.of [(0, lc_spec_NewKernel_l0)]
theorem r_spec_NewKernel_l0 (x : FSt sh_spec_NewKernel_l0 bs_spec_NewKernel_l0) : roundK C_spec_NewKernel.T (C_spec_NewKernel.hint 32) C_spec_NewKernel.mode O_spec_NewKernel L_spec_NewKernel 0 (lp Try.prog 32 0) (encSt sh_spec_NewKernel_l0 bs_spec_NewKernel_l0 x) (fun e s => some (e, s)) =
    spec_NewKernel_l0K x.1 x.2.1 x.2.2.1 x.2.2.2.1 x.2.2.2.2.1 x.2.2.2.2.2.1 x.2.2.2.2.2.2.1 x.2.2.2.2.2.2.2.1 x.2.2.2.2.2.2.2.2.1 x.2.2.2.2.2.2.2.2.2.1 x.2.2.2.2.2.2.2.2.2.2.1 x.2.2.2.2.2.2.2.2.2.2.2.1 x.2.2.2.2.2.2.2.2.2.2.2.2.1 x.2.2.2.2.2.2.2.2.2.2.2.2.2.1 (fun y => some (Ex.normal, encSt sh_spec_NewKernel_l0 bs_spec_NewKernel_l0 y)) (fun a => some (Ex.exit 0, encSt [(4, .one (.ptr 0 0 0)), (5, .one (.ptr 1 0 0))] [.var [.dat I, .dat I, .dat I, .all 2, .all 3, .dat I], .var [.dat I, .dat I, .dat I, .all 4, .all 5, .dat I], .data tEntry, .data I, .data tEntry, .data I] a)) := by kernel_rfl
theorem lo_spec_NewKernel_l0 : LConOk C_spec_NewKernel.T (C_spec_NewKernel.hint 32) C_spec_NewKernel.mode O_spec_NewKernel L_spec_NewKernel 0 (lp Try.prog 32 0) lc_spec_NewKernel_l0 :=
  LCon.shape1_ok (fun a => by simp) fun x => (r_spec_NewKernel_l0 x).trans (spec_NewKernel_l0_eq x.1 x.2.1 x.2.2.1 x.2.2.2.1 x.2.2.2.2.1 x.2.2.2.2.2.1 x.2.2.2.2.2.2.1 x.2.2.2.2.2.2.2.1 x.2.2.2.2.2.2.2.2.1 x.2.2.2.2.2.2.2.2.2.1 x.2.2.2.2.2.2.2.2.2.2.1 x.2.2.2.2.2.2.2.2.2.2.2.1 x.2.2.2.2.2.2.2.2.2.2.2.2.1 x.2.2.2.2.2.2.2.2.2.2.2.2.2.1 _ _)
theorem lf_spec_NewKernel : LoopsFn Try.prog C_spec_NewKernel O_spec_NewKernel 32 L_spec_NewKernel := LoopsFn.all (by kernel_rfl) (by decide) ⟨lo_spec_NewKernel_l0, trivial⟩
def out_spec_NewKernel (r : Int × Int × Int × Int × (List DEntry) × (List Int)) : AV × Store := out1 (.agg [.dat I, .dat I, .dat I, .all 0, .all 1, .dat I]) [.data tEntry, .data I] (r.1, r.2.1, r.2.2.1, r.2.2.2.1, r.2.2.2.2.1, r.2.2.2.2.2, ())
theorem w_spec_NewKernel (x : FAr [.one (.dat I), .one (.dat I)] []) : evBodyK Try.prog C_spec_NewKernel O_spec_NewKernel L_spec_NewKernel 32 (encAr [.one (.dat I), .one (.dat I)] [] x).1 (encAr [.one (.dat I), .one (.dat I)] [] x).2 (fun v s => some (v, s)) =
    spec_NewKernelK x.1 x.2.1 (fun r => some (out_spec_NewKernel r)) := by kernel_rfl
theorem sem_spec_NewKernel : ∀ x y, (fun x => spec_NewKernel x.1 x.2.1) x = some y → SemCall Try.prog 32 (encAr [.one (.dat I), .one (.dat I)] [] x).1 (encAr [.one (.dat I), .one (.dat I)] [] x).2 (out_spec_NewKernel y).1 (out_spec_NewKernel y).2 :=
  sem_of folP okP tabP (Oracle.of_ok (Oracle.cons_ok ok_spec_l1In Oracle.nil_ok)) lf_spec_NewKernel fun x => (w_spec_NewKernel x).trans (spec_NewKernel_eq x.1 x.2.1 _)
noncomputable def c_spec_NewKernel : Con := Con.shape [.one (.dat I), .one (.dat I)] [] (fun x => spec_NewKernel x.1 x.2.1) out_spec_NewKernel
theorem ok_spec_NewKernel : ConOk Try.prog 32 c_spec_NewKernel := Con.shape_ok sem_spec_NewKernel

/-! 64 -/
def C_spec_PieceValid : Cfg := { T := tab, hint := fun _ => { keepR := [1, 2], res := [2], order := [(1, [(0, .forced), (1, .forced), (2, .forced), (3, .forced), (4, .forced), (5, .forced), (6, .forced), (7, .forced), (8, .forced), (9, .read), (10, .read), (11, .forced), (12, .forced), (13, .forced), (14, .forced), (15, .forced), (16, .forced), (17, .forced), (18, .read), (19, .read), (20, .forced), (21, .forced), (22, .forced), (23, .forced), (24, .forced), (25, .forced), (26, .forced), (27, .read), (28, .read), (29, .forced), (30, .forced), (31, .forced), (32, .forced), (33, .forced), (34, .forced)])] }, mode := fun _ => .borrow }
noncomputable def O_spec_PieceValid : Oracle := Oracle.of [(67, c_spec_l1In)]
noncomputable def L_spec_PieceValid : Loops := Loops.of []
theorem lf_spec_PieceValid : LoopsFn Try.prog C_spec_PieceValid O_spec_PieceValid 64 L_spec_PieceValid := LoopsFn.nil' (by kernel_rfl)
def out_spec_PieceValid (r : Bool) : AV × Store := out1 (.one (.dat .bool)) [] (r, ())
theorem w_spec_PieceValid (x : FAr [.one (.dat tPiece)] []) : evBodyK Try.prog C_spec_PieceValid O_spec_PieceValid L_spec_PieceValid 64 (encAr [.one (.dat tPiece)] [] x).1 (encAr [.one (.dat tPiece)] [] x).2 (fun v s => some (v, s)) =
    spec_PieceValidK x.1 (fun r => some (out_spec_PieceValid r)) := by kernel_rfl
theorem sem_spec_PieceValid : ∀ x y, (fun x => spec_PieceValid x.1) x = some y → SemCall Try.prog 64 (encAr [.one (.dat tPiece)] [] x).1 (encAr [.one (.dat tPiece)] [] x).2 (out_spec_PieceValid y).1 (out_spec_PieceValid y).2 :=
  sem_of folP okP tabP (Oracle.of_ok (Oracle.cons_ok ok_spec_l1In Oracle.nil_ok)) lf_spec_PieceValid fun x => (w_spec_PieceValid x).trans (spec_PieceValid_eq x.1 _)
noncomputable def c_spec_PieceValid : Con := Con.shape [.one (.dat tPiece)] [] (fun x => spec_PieceValid x.1) out_spec_PieceValid
theorem ok_spec_PieceValid : ConOk Try.prog 64 c_spec_PieceValid := Con.shape_ok sem_spec_PieceValid

/-! 134 -/
def C_spec_RightsValid : Cfg := { T := tab, hint := fun _ => { keepR := [0, 2], res := [2] }, mode := fun _ => .borrow }
noncomputable def O_spec_RightsValid : Oracle := Oracle.of [(67, c_spec_l1In)]
noncomputable def L_spec_RightsValid : Loops := Loops.of []
theorem lf_spec_RightsValid : LoopsFn Try.prog C_spec_RightsValid O_spec_RightsValid 134 L_spec_RightsValid := LoopsFn.nil' (by kernel_rfl)
def out_spec_RightsValid (r : Bool) : AV × Store := out1 (.one (.dat .bool)) [] (r, ())
theorem w_spec_RightsValid (x : FAr [.one (.dat I)] []) : evBodyK Try.prog C_spec_RightsValid O_spec_RightsValid L_spec_RightsValid 134 (encAr [.one (.dat I)] [] x).1 (encAr [.one (.dat I)] [] x).2 (fun v s => some (v, s)) =
    spec_RightsValidK x.1 (fun r => some (out_spec_RightsValid r)) := by kernel_rfl
theorem sem_spec_RightsValid : ∀ x y, (fun x => spec_RightsValid x.1) x = some y → SemCall Try.prog 134 (encAr [.one (.dat I)] [] x).1 (encAr [.one (.dat I)] [] x).2 (out_spec_RightsValid y).1 (out_spec_RightsValid y).2 :=
  sem_of folP okP tabP (Oracle.of_ok (Oracle.cons_ok ok_spec_l1In Oracle.nil_ok)) lf_spec_RightsValid fun x => (w_spec_RightsValid x).trans (spec_RightsValid_eq x.1 _)
noncomputable def c_spec_RightsValid : Con := Con.shape [.one (.dat I)] [] (fun x => spec_RightsValid x.1) out_spec_RightsValid
theorem ok_spec_RightsValid : ConOk Try.prog 134 c_spec_RightsValid := Con.shape_ok sem_spec_RightsValid

/-! 135 -/
def C_spec_l2Badged : Cfg := { T := tab, hint := fun _ => { keepR := [0, 2], res := [2] }, mode := fun _ => .borrow }
noncomputable def O_spec_l2Badged : Oracle := Oracle.of []
noncomputable def L_spec_l2Badged : Loops := Loops.of []
theorem lf_spec_l2Badged : LoopsFn Try.prog C_spec_l2Badged O_spec_l2Badged 135 L_spec_l2Badged := LoopsFn.nil' (by kernel_rfl)
def out_spec_l2Badged (r : Bool) : AV × Store := out1 (.one (.dat .bool)) [] (r, ())
theorem w_spec_l2Badged (x : FAr [.one (.dat I)] []) : evBodyK Try.prog C_spec_l2Badged O_spec_l2Badged L_spec_l2Badged 135 (encAr [.one (.dat I)] [] x).1 (encAr [.one (.dat I)] [] x).2 (fun v s => some (v, s)) =
    spec_l2BadgedK x.1 (fun r => some (out_spec_l2Badged r)) := by kernel_rfl
theorem sem_spec_l2Badged : ∀ x y, (fun x => spec_l2Badged x.1) x = some y → SemCall Try.prog 135 (encAr [.one (.dat I)] [] x).1 (encAr [.one (.dat I)] [] x).2 (out_spec_l2Badged y).1 (out_spec_l2Badged y).2 :=
  sem_of folP okP tabP (Oracle.of_ok Oracle.nil_ok) lf_spec_l2Badged fun x => (w_spec_l2Badged x).trans (spec_l2Badged_eq x.1 _)
noncomputable def c_spec_l2Badged : Con := Con.shape [.one (.dat I)] [] (fun x => spec_l2Badged x.1) out_spec_l2Badged
theorem ok_spec_l2Badged : ConOk Try.prog 135 c_spec_l2Badged := Con.shape_ok sem_spec_l2Badged

/-! 110 -/
def C_spec_CapValid : Cfg := { T := tab, hint := fun _ => { keepR := [1, 2, 5], res := [2] }, mode := fun _ => .borrow }
noncomputable def O_spec_CapValid : Oracle := Oracle.of [(67, c_spec_l1In), (134, c_spec_RightsValid), (135, c_spec_l2Badged)]
noncomputable def L_spec_CapValid : Loops := Loops.of []
theorem lf_spec_CapValid : LoopsFn Try.prog C_spec_CapValid O_spec_CapValid 110 L_spec_CapValid := LoopsFn.nil' (by kernel_rfl)
def out_spec_CapValid (r : Bool) : AV × Store := out1 (.one (.dat .bool)) [] (r, ())
theorem w_spec_CapValid (x : FAr [.one (.dat tCap)] []) : evBodyK Try.prog C_spec_CapValid O_spec_CapValid L_spec_CapValid 110 (encAr [.one (.dat tCap)] [] x).1 (encAr [.one (.dat tCap)] [] x).2 (fun v s => some (v, s)) =
    spec_CapValidK x.1 (fun r => some (out_spec_CapValid r)) := by kernel_rfl
theorem sem_spec_CapValid : ∀ x y, (fun x => spec_CapValid x.1) x = some y → SemCall Try.prog 110 (encAr [.one (.dat tCap)] [] x).1 (encAr [.one (.dat tCap)] [] x).2 (out_spec_CapValid y).1 (out_spec_CapValid y).2 :=
  sem_of folP okP tabP (Oracle.of_ok (Oracle.cons_ok ok_spec_l1In (Oracle.cons_ok ok_spec_RightsValid (Oracle.cons_ok ok_spec_l2Badged Oracle.nil_ok)))) lf_spec_CapValid fun x => (w_spec_CapValid x).trans (spec_CapValid_eq x.1 _)
noncomputable def c_spec_CapValid : Con := Con.shape [.one (.dat tCap)] [] (fun x => spec_CapValid x.1) out_spec_CapValid
theorem ok_spec_CapValid : ConOk Try.prog 110 c_spec_CapValid := Con.shape_ok sem_spec_CapValid

/-! 111 -/
def C_spec_CapWithin : Cfg := { T := tab, hint := fun _ => { keepR := [2, 3, 4], res := [4] }, mode := fun _ => .borrow }
noncomputable def O_spec_CapWithin : Oracle := Oracle.of [(110, c_spec_CapValid)]
noncomputable def L_spec_CapWithin : Loops := Loops.of []
theorem lf_spec_CapWithin : LoopsFn Try.prog C_spec_CapWithin O_spec_CapWithin 111 L_spec_CapWithin := LoopsFn.nil' (by kernel_rfl)
def out_spec_CapWithin (r : Bool) : AV × Store := out1 (.one (.dat .bool)) [] (r, ())
theorem w_spec_CapWithin (x : FAr [.one (.dat tCap), .one (.dat tCap)] []) : evBodyK Try.prog C_spec_CapWithin O_spec_CapWithin L_spec_CapWithin 111 (encAr [.one (.dat tCap), .one (.dat tCap)] [] x).1 (encAr [.one (.dat tCap), .one (.dat tCap)] [] x).2 (fun v s => some (v, s)) =
    spec_CapWithinK x.1 x.2.1 (fun r => some (out_spec_CapWithin r)) := by kernel_rfl
theorem sem_spec_CapWithin : ∀ x y, (fun x => spec_CapWithin x.1 x.2.1) x = some y → SemCall Try.prog 111 (encAr [.one (.dat tCap), .one (.dat tCap)] [] x).1 (encAr [.one (.dat tCap), .one (.dat tCap)] [] x).2 (out_spec_CapWithin y).1 (out_spec_CapWithin y).2 :=
  sem_of folP okP tabP (Oracle.of_ok (Oracle.cons_ok ok_spec_CapValid Oracle.nil_ok)) lf_spec_CapWithin fun x => (w_spec_CapWithin x).trans (spec_CapWithin_eq x.1 x.2.1 _)
noncomputable def c_spec_CapWithin : Con := Con.shape [.one (.dat tCap), .one (.dat tCap)] [] (fun x => spec_CapWithin x.1 x.2.1) out_spec_CapWithin
theorem ok_spec_CapWithin : ConOk Try.prog 111 c_spec_CapWithin := Con.shape_ok sem_spec_CapWithin

/-! 65 -/
def C_spec_DerivationValid : Cfg := { T := tab, hint := fun _ => { keepR := [0, 2, 3, 7, 36, 79], res := [2], order := [(6, [(0, .read), (1, .forced), (2, .forced), (3, .forced), (4, .forced), (5, .forced), (6, .forced), (7, .read), (8, .forced), (9, .forced), (10, .forced), (11, .forced), (12, .forced), (13, .forced), (14, .forced), (15, .read), (16, .read), (17, .forced), (18, .forced), (19, .forced), (20, .forced), (21, .forced), (22, .forced), (23, .forced), (24, .forced), (25, .read), (26, .read), (27, .read), (28, .read), (29, .read), (30, .read), (31, .read), (32, .forced), (33, .forced), (34, .forced), (35, .forced), (36, .forced), (37, .forced), (38, .forced), (39, .forced), (40, .forced), (41, .forced), (42, .forced)])], keepL := [(0, [0, 3])], keepX := [(0, [0]), (1, [0, 3])] }, mode := fun _ => .borrow }
noncomputable def O_spec_DerivationValid : Oracle := Oracle.of [(67, c_spec_l1In), (110, c_spec_CapValid), (111, c_spec_CapWithin)]
def sh_spec_DerivationValid_l0 : List (Nat × S2) := [(0, .one (.dat (.sl tEntry))), (3, .one (.dat I))]
def bs_spec_DerivationValid_l0 : List SB := []
noncomputable def lc_spec_DerivationValid_l0 : LCon := LCon.shape sh_spec_DerivationValid_l0 bs_spec_DerivationValid_l0 spec_DerivationValid_l0 (fun a => (.exit 0, encSt [(0, .one (.dat (.sl tEntry)))] [] a)) (fun b => encSt [(2, .one (.dat .bool))] [] b)
noncomputable def L_spec_DerivationValid : Loops := Loops.of [(0, lc_spec_DerivationValid_l0)]
theorem r_spec_DerivationValid_l0 (x : FSt sh_spec_DerivationValid_l0 bs_spec_DerivationValid_l0) : roundK C_spec_DerivationValid.T (C_spec_DerivationValid.hint 65) C_spec_DerivationValid.mode O_spec_DerivationValid L_spec_DerivationValid 0 (lp Try.prog 65 0) (encSt sh_spec_DerivationValid_l0 bs_spec_DerivationValid_l0 x) (fun e s => some (e, s)) =
    spec_DerivationValid_l0K x.1 x.2.1 (fun y => some (Ex.normal, encSt sh_spec_DerivationValid_l0 bs_spec_DerivationValid_l0 y)) (fun a => some (Ex.exit 0, encSt [(0, .one (.dat (.sl tEntry)))] [] a)) (fun b => some (Ex.ret, encSt [(2, .one (.dat .bool))] [] b)) := by kernel_rfl
theorem lo_spec_DerivationValid_l0 : LConOk C_spec_DerivationValid.T (C_spec_DerivationValid.hint 65) C_spec_DerivationValid.mode O_spec_DerivationValid L_spec_DerivationValid 0 (lp Try.prog 65 0) lc_spec_DerivationValid_l0 :=
  LCon.shape_ok (fun a => by simp) fun x => (r_spec_DerivationValid_l0 x).trans (spec_DerivationValid_l0_eq x.1 x.2.1 _ _ _)
theorem lf_spec_DerivationValid : LoopsFn Try.prog C_spec_DerivationValid O_spec_DerivationValid 65 L_spec_DerivationValid := LoopsFn.all (by kernel_rfl) (by decide) ⟨lo_spec_DerivationValid_l0, trivial⟩
def out_spec_DerivationValid (r : Bool) : AV × Store := out1 (.one (.dat .bool)) [] (r, ())
theorem w_spec_DerivationValid (x : FAr [.one (.dat (.sl tEntry))] []) : evBodyK Try.prog C_spec_DerivationValid O_spec_DerivationValid L_spec_DerivationValid 65 (encAr [.one (.dat (.sl tEntry))] [] x).1 (encAr [.one (.dat (.sl tEntry))] [] x).2 (fun v s => some (v, s)) =
    spec_DerivationValidK x.1 (fun r => some (out_spec_DerivationValid r)) := by kernel_rfl
theorem sem_spec_DerivationValid : ∀ x y, (fun x => spec_DerivationValid x.1) x = some y → SemCall Try.prog 65 (encAr [.one (.dat (.sl tEntry))] [] x).1 (encAr [.one (.dat (.sl tEntry))] [] x).2 (out_spec_DerivationValid y).1 (out_spec_DerivationValid y).2 :=
  sem_of folP okP tabP (Oracle.of_ok (Oracle.cons_ok ok_spec_l1In (Oracle.cons_ok ok_spec_CapValid (Oracle.cons_ok ok_spec_CapWithin Oracle.nil_ok)))) lf_spec_DerivationValid fun x => (w_spec_DerivationValid x).trans (spec_DerivationValid_eq x.1 _)
noncomputable def c_spec_DerivationValid : Con := Con.shape [.one (.dat (.sl tEntry))] [] (fun x => spec_DerivationValid x.1) out_spec_DerivationValid
theorem ok_spec_DerivationValid : ConOk Try.prog 65 c_spec_DerivationValid := Con.shape_ok sem_spec_DerivationValid

/-! 66 -/
def C_spec_PlacesValid : Cfg := { T := tab, hint := fun _ => { keepR := [0, 2, 3, 4, 8, 16, 19, 37], res := [2], order := [(9, [(0, .read), (1, .forced), (2, .forced), (3, .forced), (4, .forced), (5, .forced), (6, .read), (7, .read), (8, .read), (9, .read), (10, .read), (11, .forced), (12, .forced), (13, .forced), (14, .forced), (15, .forced)])], keepL := [(0, [0, 3]), (2, [0, 3, 4])], keepX := [(0, [0]), (1, [0, 3]), (2, [0, 3]), (3, [0, 3, 4])] }, mode := fun _ => .borrow }
noncomputable def O_spec_PlacesValid : Oracle := Oracle.of [(67, c_spec_l1In)]
def sh_spec_PlacesValid_l0 : List (Nat × S2) := [(0, .one (.dat (.sl I))), (3, .one (.dat I))]
def bs_spec_PlacesValid_l0 : List SB := []
noncomputable def lc_spec_PlacesValid_l0 : LCon := LCon.shape sh_spec_PlacesValid_l0 bs_spec_PlacesValid_l0 spec_PlacesValid_l0 (fun a => (.exit 0, encSt [(0, .one (.dat (.sl I)))] [] a)) (fun b => encSt [(2, .one (.dat .bool))] [] b)
def sh_spec_PlacesValid_l2 : List (Nat × S2) := [(0, .one (.dat (.sl I))), (3, .one (.dat I)), (4, .one (.dat I))]
def bs_spec_PlacesValid_l2 : List SB := []
noncomputable def lc_spec_PlacesValid_l2 : LCon := LCon.shape sh_spec_PlacesValid_l2 bs_spec_PlacesValid_l2 spec_PlacesValid_l2 (fun a => (.exit 2, encSt [(0, .one (.dat (.sl I))), (3, .one (.dat I))] [] a)) (fun b => encSt [(2, .one (.dat .bool))] [] b)
noncomputable def L_spec_PlacesValid : Loops := Loops.of [(0, lc_spec_PlacesValid_l0), (2, lc_spec_PlacesValid_l2)]
theorem r_spec_PlacesValid_l0 (x : FSt sh_spec_PlacesValid_l0 bs_spec_PlacesValid_l0) : roundK C_spec_PlacesValid.T (C_spec_PlacesValid.hint 66) C_spec_PlacesValid.mode O_spec_PlacesValid L_spec_PlacesValid 0 (lp Try.prog 66 0) (encSt sh_spec_PlacesValid_l0 bs_spec_PlacesValid_l0 x) (fun e s => some (e, s)) =
    spec_PlacesValid_l0K x.1 x.2.1 (fun y => some (Ex.normal, encSt sh_spec_PlacesValid_l0 bs_spec_PlacesValid_l0 y)) (fun a => some (Ex.exit 0, encSt [(0, .one (.dat (.sl I)))] [] a)) (fun b => some (Ex.ret, encSt [(2, .one (.dat .bool))] [] b)) := by kernel_rfl
theorem lo_spec_PlacesValid_l0 : LConOk C_spec_PlacesValid.T (C_spec_PlacesValid.hint 66) C_spec_PlacesValid.mode O_spec_PlacesValid L_spec_PlacesValid 0 (lp Try.prog 66 0) lc_spec_PlacesValid_l0 :=
  LCon.shape_ok (fun a => by simp) fun x => (r_spec_PlacesValid_l0 x).trans (spec_PlacesValid_l0_eq x.1 x.2.1 _ _ _)
theorem r_spec_PlacesValid_l2 (x : FSt sh_spec_PlacesValid_l2 bs_spec_PlacesValid_l2) : roundK C_spec_PlacesValid.T (C_spec_PlacesValid.hint 66) C_spec_PlacesValid.mode O_spec_PlacesValid L_spec_PlacesValid 2 (lp Try.prog 66 1) (encSt sh_spec_PlacesValid_l2 bs_spec_PlacesValid_l2 x) (fun e s => some (e, s)) =
    spec_PlacesValid_l2K x.1 x.2.1 x.2.2.1 (fun y => some (Ex.normal, encSt sh_spec_PlacesValid_l2 bs_spec_PlacesValid_l2 y)) (fun a => some (Ex.exit 2, encSt [(0, .one (.dat (.sl I))), (3, .one (.dat I))] [] a)) (fun b => some (Ex.ret, encSt [(2, .one (.dat .bool))] [] b)) := by kernel_rfl
theorem lo_spec_PlacesValid_l2 : LConOk C_spec_PlacesValid.T (C_spec_PlacesValid.hint 66) C_spec_PlacesValid.mode O_spec_PlacesValid L_spec_PlacesValid 2 (lp Try.prog 66 1) lc_spec_PlacesValid_l2 :=
  LCon.shape_ok (fun a => by simp) fun x => (r_spec_PlacesValid_l2 x).trans (spec_PlacesValid_l2_eq x.1 x.2.1 x.2.2.1 _ _ _)
theorem lf_spec_PlacesValid : LoopsFn Try.prog C_spec_PlacesValid O_spec_PlacesValid 66 L_spec_PlacesValid := LoopsFn.all (by kernel_rfl) (by decide) ⟨lo_spec_PlacesValid_l0, lo_spec_PlacesValid_l2, trivial⟩
def out_spec_PlacesValid (r : Bool) : AV × Store := out1 (.one (.dat .bool)) [] (r, ())
theorem w_spec_PlacesValid (x : FAr [.one (.dat (.sl I))] []) : evBodyK Try.prog C_spec_PlacesValid O_spec_PlacesValid L_spec_PlacesValid 66 (encAr [.one (.dat (.sl I))] [] x).1 (encAr [.one (.dat (.sl I))] [] x).2 (fun v s => some (v, s)) =
    spec_PlacesValidK x.1 (fun r => some (out_spec_PlacesValid r)) := by kernel_rfl
theorem sem_spec_PlacesValid : ∀ x y, (fun x => spec_PlacesValid x.1) x = some y → SemCall Try.prog 66 (encAr [.one (.dat (.sl I))] [] x).1 (encAr [.one (.dat (.sl I))] [] x).2 (out_spec_PlacesValid y).1 (out_spec_PlacesValid y).2 :=
  sem_of folP okP tabP (Oracle.of_ok (Oracle.cons_ok ok_spec_l1In Oracle.nil_ok)) lf_spec_PlacesValid fun x => (w_spec_PlacesValid x).trans (spec_PlacesValid_eq x.1 _)
noncomputable def c_spec_PlacesValid : Con := Con.shape [.one (.dat (.sl I))] [] (fun x => spec_PlacesValid x.1) out_spec_PlacesValid
theorem ok_spec_PlacesValid : ConOk Try.prog 66 c_spec_PlacesValid := Con.shape_ok sem_spec_PlacesValid

/-! 68 -/
def C_spec_FindPlace : Cfg := { T := tab, hint := fun _ => { keepR := [0, 1, 4, 5, 17, 25], res := [4], keepL := [(0, [0, 1, 5])], keepX := [(0, []), (1, [0, 1, 5])] }, mode := fun _ => .borrow }
noncomputable def O_spec_FindPlace : Oracle := Oracle.of [(66, c_spec_PlacesValid)]
def sh_spec_FindPlace_l0 : List (Nat × S2) := [(0, .one (.dat (.sl I))), (1, .one (.dat I)), (5, .one (.dat I))]
def bs_spec_FindPlace_l0 : List SB := []
noncomputable def lc_spec_FindPlace_l0 : LCon := LCon.shape sh_spec_FindPlace_l0 bs_spec_FindPlace_l0 spec_FindPlace_l0 (fun a => (.exit 0, encSt [] [] a)) (fun b => encSt [(4, .one (.dat I))] [] b)
noncomputable def L_spec_FindPlace : Loops := Loops.of [(0, lc_spec_FindPlace_l0)]
theorem r_spec_FindPlace_l0 (x : FSt sh_spec_FindPlace_l0 bs_spec_FindPlace_l0) : roundK C_spec_FindPlace.T (C_spec_FindPlace.hint 68) C_spec_FindPlace.mode O_spec_FindPlace L_spec_FindPlace 0 (lp Try.prog 68 0) (encSt sh_spec_FindPlace_l0 bs_spec_FindPlace_l0 x) (fun e s => some (e, s)) =
    spec_FindPlace_l0K x.1 x.2.1 x.2.2.1 (fun y => some (Ex.normal, encSt sh_spec_FindPlace_l0 bs_spec_FindPlace_l0 y)) (fun a => some (Ex.exit 0, encSt [] [] a)) (fun b => some (Ex.ret, encSt [(4, .one (.dat I))] [] b)) := by kernel_rfl
theorem lo_spec_FindPlace_l0 : LConOk C_spec_FindPlace.T (C_spec_FindPlace.hint 68) C_spec_FindPlace.mode O_spec_FindPlace L_spec_FindPlace 0 (lp Try.prog 68 0) lc_spec_FindPlace_l0 :=
  LCon.shape_ok (fun a => by simp) fun x => (r_spec_FindPlace_l0 x).trans (spec_FindPlace_l0_eq x.1 x.2.1 x.2.2.1 _ _ _)
theorem lf_spec_FindPlace : LoopsFn Try.prog C_spec_FindPlace O_spec_FindPlace 68 L_spec_FindPlace := LoopsFn.all (by kernel_rfl) (by decide) ⟨lo_spec_FindPlace_l0, trivial⟩
def out_spec_FindPlace (r : Int) : AV × Store := out1 (.one (.dat I)) [] (r, ())
theorem w_spec_FindPlace (x : FAr [.one (.dat (.sl I)), .one (.dat I)] []) : evBodyK Try.prog C_spec_FindPlace O_spec_FindPlace L_spec_FindPlace 68 (encAr [.one (.dat (.sl I)), .one (.dat I)] [] x).1 (encAr [.one (.dat (.sl I)), .one (.dat I)] [] x).2 (fun v s => some (v, s)) =
    spec_FindPlaceK x.1 x.2.1 (fun r => some (out_spec_FindPlace r)) := by kernel_rfl
theorem sem_spec_FindPlace : ∀ x y, (fun x => spec_FindPlace x.1 x.2.1) x = some y → SemCall Try.prog 68 (encAr [.one (.dat (.sl I)), .one (.dat I)] [] x).1 (encAr [.one (.dat (.sl I)), .one (.dat I)] [] x).2 (out_spec_FindPlace y).1 (out_spec_FindPlace y).2 :=
  sem_of folP okP tabP (Oracle.of_ok (Oracle.cons_ok ok_spec_PlacesValid Oracle.nil_ok)) lf_spec_FindPlace fun x => (w_spec_FindPlace x).trans (spec_FindPlace_eq x.1 x.2.1 _)
noncomputable def c_spec_FindPlace : Con := Con.shape [.one (.dat (.sl I)), .one (.dat I)] [] (fun x => spec_FindPlace x.1 x.2.1) out_spec_FindPlace
theorem ok_spec_FindPlace : ConOk Try.prog 68 c_spec_FindPlace := Con.shape_ok sem_spec_FindPlace

/-! 23 -/
def C_spec_KernelValid : Cfg := { T := tab, hint := fun _ => { keepR := [1, 2, 3, 4, 26, 31, 59, 64, 95], res := [2], order := [(6, [(0, .read), (1, .read), (2, .forced), (3, .forced), (4, .forced), (5, .forced), (6, .forced), (7, .forced), (8, .read), (9, .read), (10, .forced), (11, .forced), (12, .forced), (13, .forced), (14, .forced), (15, .read), (16, .read), (17, .read), (18, .read), (19, .read), (20, .read), (21, .read), (22, .forced), (23, .forced), (24, .forced), (25, .forced)]), (11, [(0, .read), (1, .read), (2, .read), (3, .read), (4, .read), (5, .forced), (6, .forced), (7, .forced), (8, .forced), (9, .forced), (10, .read), (11, .read), (12, .forced), (13, .forced), (14, .forced), (15, .forced), (16, .forced), (17, .read), (18, .read), (19, .read), (20, .read), (21, .forced), (22, .forced), (23, .forced), (24, .forced), (25, .forced), (26, .forced), (27, .forced), (28, .forced)])], keepL := [(0, [1, 3]), (2, [1, 4])], keepX := [(0, [1]), (1, [1, 3]), (2, []), (3, [1, 4])] }, mode := fun _ => .borrow }
noncomputable def O_spec_KernelValid : Oracle := Oracle.of [(64, c_spec_PieceValid), (65, c_spec_DerivationValid), (66, c_spec_PlacesValid), (67, c_spec_l1In), (68, c_spec_FindPlace)]
def sh_spec_KernelValid_l0 : List (Nat × S2) := [(1, .one (.cdat tKernel 0)), (3, .one (.dat I))]
def bs_spec_KernelValid_l0 : List SB := []
noncomputable def lc_spec_KernelValid_l0 : LCon := LCon.shape sh_spec_KernelValid_l0 bs_spec_KernelValid_l0 spec_KernelValid_l0 (fun a => (.exit 0, encSt [(1, .one (.cdat tKernel 0))] [] a)) (fun b => encSt [(2, .one (.dat .bool))] [] b)
def sh_spec_KernelValid_l2 : List (Nat × S2) := [(1, .one (.cdat tKernel 0)), (4, .one (.dat I))]
def bs_spec_KernelValid_l2 : List SB := []
noncomputable def lc_spec_KernelValid_l2 : LCon := LCon.shape sh_spec_KernelValid_l2 bs_spec_KernelValid_l2 spec_KernelValid_l2 (fun a => (.exit 2, encSt [] [] a)) (fun b => encSt [(2, .one (.dat .bool))] [] b)
noncomputable def L_spec_KernelValid : Loops := Loops.of [(0, lc_spec_KernelValid_l0), (2, lc_spec_KernelValid_l2)]
theorem r_spec_KernelValid_l0 (x : FSt sh_spec_KernelValid_l0 bs_spec_KernelValid_l0) : roundK C_spec_KernelValid.T (C_spec_KernelValid.hint 23) C_spec_KernelValid.mode O_spec_KernelValid L_spec_KernelValid 0 (lp Try.prog 23 0) (encSt sh_spec_KernelValid_l0 bs_spec_KernelValid_l0 x) (fun e s => some (e, s)) =
    spec_KernelValid_l0K x.1 x.2.1 (fun y => some (Ex.normal, encSt sh_spec_KernelValid_l0 bs_spec_KernelValid_l0 y)) (fun a => some (Ex.exit 0, encSt [(1, .one (.cdat tKernel 0))] [] a)) (fun b => some (Ex.ret, encSt [(2, .one (.dat .bool))] [] b)) := by kernel_rfl
theorem lo_spec_KernelValid_l0 : LConOk C_spec_KernelValid.T (C_spec_KernelValid.hint 23) C_spec_KernelValid.mode O_spec_KernelValid L_spec_KernelValid 0 (lp Try.prog 23 0) lc_spec_KernelValid_l0 :=
  LCon.shape_ok (fun a => by simp) fun x => (r_spec_KernelValid_l0 x).trans (spec_KernelValid_l0_eq x.1 x.2.1 _ _ _)
theorem r_spec_KernelValid_l2 (x : FSt sh_spec_KernelValid_l2 bs_spec_KernelValid_l2) : roundK C_spec_KernelValid.T (C_spec_KernelValid.hint 23) C_spec_KernelValid.mode O_spec_KernelValid L_spec_KernelValid 2 (lp Try.prog 23 1) (encSt sh_spec_KernelValid_l2 bs_spec_KernelValid_l2 x) (fun e s => some (e, s)) =
    spec_KernelValid_l2K x.1 x.2.1 (fun y => some (Ex.normal, encSt sh_spec_KernelValid_l2 bs_spec_KernelValid_l2 y)) (fun a => some (Ex.exit 2, encSt [] [] a)) (fun b => some (Ex.ret, encSt [(2, .one (.dat .bool))] [] b)) := by kernel_rfl
theorem lo_spec_KernelValid_l2 : LConOk C_spec_KernelValid.T (C_spec_KernelValid.hint 23) C_spec_KernelValid.mode O_spec_KernelValid L_spec_KernelValid 2 (lp Try.prog 23 1) lc_spec_KernelValid_l2 :=
  LCon.shape_ok (fun a => by simp) fun x => (r_spec_KernelValid_l2 x).trans (spec_KernelValid_l2_eq x.1 x.2.1 _ _ _)
theorem lf_spec_KernelValid : LoopsFn Try.prog C_spec_KernelValid O_spec_KernelValid 23 L_spec_KernelValid := LoopsFn.all (by kernel_rfl) (by decide) ⟨lo_spec_KernelValid_l0, lo_spec_KernelValid_l2, trivial⟩
def out_spec_KernelValid (r : Bool) : AV × Store := out1 (.one (.dat .bool)) [] (r, ())
theorem w_spec_KernelValid (x : FAr [.one (.dat tKernel)] []) : evBodyK Try.prog C_spec_KernelValid O_spec_KernelValid L_spec_KernelValid 23 (encAr [.one (.dat tKernel)] [] x).1 (encAr [.one (.dat tKernel)] [] x).2 (fun v s => some (v, s)) =
    spec_KernelValidK x.1 (fun r => some (out_spec_KernelValid r)) := by kernel_rfl
theorem sem_spec_KernelValid : ∀ x y, (fun x => spec_KernelValid x.1) x = some y → SemCall Try.prog 23 (encAr [.one (.dat tKernel)] [] x).1 (encAr [.one (.dat tKernel)] [] x).2 (out_spec_KernelValid y).1 (out_spec_KernelValid y).2 :=
  sem_of folP okP tabP (Oracle.of_ok (Oracle.cons_ok ok_spec_PieceValid (Oracle.cons_ok ok_spec_DerivationValid (Oracle.cons_ok ok_spec_PlacesValid (Oracle.cons_ok ok_spec_l1In (Oracle.cons_ok ok_spec_FindPlace Oracle.nil_ok)))))) lf_spec_KernelValid fun x => (w_spec_KernelValid x).trans (spec_KernelValid_eq x.1 _)
noncomputable def c_spec_KernelValid : Con := Con.shape [.one (.dat tKernel)] [] (fun x => spec_KernelValid x.1) out_spec_KernelValid
theorem ok_spec_KernelValid : ConOk Try.prog 23 c_spec_KernelValid := Con.shape_ok sem_spec_KernelValid

/-! 60 -/
def C_spec_l25Copy : Cfg := { T := tab, hint := fun _ => { mu := [2, 3, 8, 13], keepR := [1, 2, 3], res := [2] }, mode := fun _ => .borrow }
noncomputable def O_spec_l25Copy : Oracle := Oracle.of []
noncomputable def L_spec_l25Copy : Loops := Loops.of []
theorem lf_spec_l25Copy : LoopsFn Try.prog C_spec_l25Copy O_spec_l25Copy 60 L_spec_l25Copy := LoopsFn.nil' (by kernel_rfl)
def out_spec_l25Copy (r : Int × Int × Int × Int × (List DEntry) × (List Int)) : AV × Store := out1 (.agg [.dat I, .dat I, .dat I, .all 0, .all 1, .dat I]) [.data tEntry, .data I] (r.1, r.2.1, r.2.2.1, r.2.2.2.1, r.2.2.2.2.1, r.2.2.2.2.2, ())
theorem w_spec_l25Copy (x : FAr [.one (.dat tKernel)] []) : evBodyK Try.prog C_spec_l25Copy O_spec_l25Copy L_spec_l25Copy 60 (encAr [.one (.dat tKernel)] [] x).1 (encAr [.one (.dat tKernel)] [] x).2 (fun v s => some (v, s)) =
    spec_l25CopyK x.1 (fun r => some (out_spec_l25Copy r)) := by kernel_rfl
theorem sem_spec_l25Copy : ∀ x y, (fun x => spec_l25Copy x.1) x = some y → SemCall Try.prog 60 (encAr [.one (.dat tKernel)] [] x).1 (encAr [.one (.dat tKernel)] [] x).2 (out_spec_l25Copy y).1 (out_spec_l25Copy y).2 :=
  sem_of folP okP tabP (Oracle.of_ok Oracle.nil_ok) lf_spec_l25Copy fun x => (w_spec_l25Copy x).trans (spec_l25Copy_eq x.1 _)
noncomputable def c_spec_l25Copy : Con := Con.shape [.one (.dat tKernel)] [] (fun x => spec_l25Copy x.1) out_spec_l25Copy
theorem ok_spec_l25Copy : ConOk Try.prog 60 c_spec_l25Copy := Con.shape_ok sem_spec_l25Copy

/-! 61 -/
def C_spec_l25Slot : Cfg := { T := tab, hint := fun _ => { keepR := [1, 2, 4, 5, 12], res := [4, 5], order := [(3, [(0, .read), (1, .read), (2, .read), (3, .read), (4, .read), (5, .read), (6, .forced), (7, .forced)])] }, mode := fun _ => .borrow }
noncomputable def O_spec_l25Slot : Oracle := Oracle.of [(67, c_spec_l1In)]
noncomputable def L_spec_l25Slot : Loops := Loops.of []
theorem lf_spec_l25Slot : LoopsFn Try.prog C_spec_l25Slot O_spec_l25Slot 61 L_spec_l25Slot := LoopsFn.nil' (by kernel_rfl)
def out_spec_l25Slot (r : Bool × Bool) : AV × Store := outT [.one (.dat .bool), .one (.dat .bool)] [] (r.1, r.2, ())
theorem w_spec_l25Slot (x : FAr [.one (.dat tKernel), .one (.dat I)] []) : evBodyK Try.prog C_spec_l25Slot O_spec_l25Slot L_spec_l25Slot 61 (encAr [.one (.dat tKernel), .one (.dat I)] [] x).1 (encAr [.one (.dat tKernel), .one (.dat I)] [] x).2 (fun v s => some (v, s)) =
    spec_l25SlotK x.1 x.2.1 (fun r => some (out_spec_l25Slot r)) := by kernel_rfl
theorem sem_spec_l25Slot : ∀ x y, (fun x => spec_l25Slot x.1 x.2.1) x = some y → SemCall Try.prog 61 (encAr [.one (.dat tKernel), .one (.dat I)] [] x).1 (encAr [.one (.dat tKernel), .one (.dat I)] [] x).2 (out_spec_l25Slot y).1 (out_spec_l25Slot y).2 :=
  sem_of folP okP tabP (Oracle.of_ok (Oracle.cons_ok ok_spec_l1In Oracle.nil_ok)) lf_spec_l25Slot fun x => (w_spec_l25Slot x).trans (spec_l25Slot_eq x.1 x.2.1 _)
noncomputable def c_spec_l25Slot : Con := Con.shape [.one (.dat tKernel), .one (.dat I)] [] (fun x => spec_l25Slot x.1 x.2.1) out_spec_l25Slot
theorem ok_spec_l25Slot : ConOk Try.prog 61 c_spec_l25Slot := Con.shape_ok sem_spec_l25Slot

/-! 81 -/
def C_spec_ObjectBits : Cfg := { T := tab, hint := fun _ => { keep := [8], keepR := [0, 2, 3, 4, 6, 8, 12], res := [2], keepX := [(0, [])] }, mode := fun _ => .borrow }
noncomputable def O_spec_ObjectBits : Oracle := Oracle.of []
noncomputable def L_spec_ObjectBits : Loops := Loops.of []
theorem lf_spec_ObjectBits : LoopsFn Try.prog C_spec_ObjectBits O_spec_ObjectBits 81 L_spec_ObjectBits := LoopsFn.nil' (by kernel_rfl)
def out_spec_ObjectBits (r : Int) : AV × Store := out1 (.one (.dat I)) [] (r, ())
theorem w_spec_ObjectBits (x : FAr [.one (.dat I)] []) : evBodyK Try.prog C_spec_ObjectBits O_spec_ObjectBits L_spec_ObjectBits 81 (encAr [.one (.dat I)] [] x).1 (encAr [.one (.dat I)] [] x).2 (fun v s => some (v, s)) =
    spec_ObjectBitsK x.1 (fun r => some (out_spec_ObjectBits r)) := by kernel_rfl
theorem sem_spec_ObjectBits : ∀ x y, (fun x => spec_ObjectBits x.1) x = some y → SemCall Try.prog 81 (encAr [.one (.dat I)] [] x).1 (encAr [.one (.dat I)] [] x).2 (out_spec_ObjectBits y).1 (out_spec_ObjectBits y).2 :=
  sem_of folP okP tabP (Oracle.of_ok Oracle.nil_ok) lf_spec_ObjectBits fun x => (w_spec_ObjectBits x).trans (spec_ObjectBits_eq x.1 _)
noncomputable def c_spec_ObjectBits : Con := Con.shape [.one (.dat I)] [] (fun x => spec_ObjectBits x.1) out_spec_ObjectBits
theorem ok_spec_ObjectBits : ConOk Try.prog 81 c_spec_ObjectBits := Con.shape_ok sem_spec_ObjectBits

/-! 123 -/
def C_spec_l3First : Cfg := { T := tab, hint := fun _ => { keepR := [1, 2, 4, 5], res := [4] }, mode := fun _ => .borrow }
noncomputable def O_spec_l3First : Oracle := Oracle.of []
noncomputable def L_spec_l3First : Loops := Loops.of []
theorem lf_spec_l3First : LoopsFn Try.prog C_spec_l3First O_spec_l3First 123 L_spec_l3First := LoopsFn.nil' (by kernel_rfl)
def out_spec_l3First (r : Int) : AV × Store := out1 (.one (.dat I)) [] (r, ())
theorem w_spec_l3First (x : FAr [.one (.dat tPiece), .one (.dat I)] []) : evBodyK Try.prog C_spec_l3First O_spec_l3First L_spec_l3First 123 (encAr [.one (.dat tPiece), .one (.dat I)] [] x).1 (encAr [.one (.dat tPiece), .one (.dat I)] [] x).2 (fun v s => some (v, s)) =
    spec_l3FirstK x.1 x.2.1 (fun r => some (out_spec_l3First r)) := by kernel_rfl
theorem sem_spec_l3First : ∀ x y, (fun x => spec_l3First x.1 x.2.1) x = some y → SemCall Try.prog 123 (encAr [.one (.dat tPiece), .one (.dat I)] [] x).1 (encAr [.one (.dat tPiece), .one (.dat I)] [] x).2 (out_spec_l3First y).1 (out_spec_l3First y).2 :=
  sem_of folP okP tabP (Oracle.of_ok Oracle.nil_ok) lf_spec_l3First fun x => (w_spec_l3First x).trans (spec_l3First_eq x.1 x.2.1 _)
noncomputable def c_spec_l3First : Con := Con.shape [.one (.dat tPiece), .one (.dat I)] [] (fun x => spec_l3First x.1 x.2.1) out_spec_l3First
theorem ok_spec_l3First : ConOk Try.prog 123 c_spec_l3First := Con.shape_ok sem_spec_l3First

/-! 122 -/
def C_spec_PieceRoom : Cfg := { T := tab, hint := fun _ => { keepR := [1, 2, 4, 12], res := [4], order := [(3, [(0, .read), (1, .read), (2, .read), (3, .read), (4, .read), (5, .read), (6, .read), (7, .forced), (8, .forced), (9, .forced), (10, .forced)])] }, mode := fun _ => .borrow }
noncomputable def O_spec_PieceRoom : Oracle := Oracle.of [(64, c_spec_PieceValid), (67, c_spec_l1In), (123, c_spec_l3First)]
noncomputable def L_spec_PieceRoom : Loops := Loops.of []
theorem lf_spec_PieceRoom : LoopsFn Try.prog C_spec_PieceRoom O_spec_PieceRoom 122 L_spec_PieceRoom := LoopsFn.nil' (by kernel_rfl)
def out_spec_PieceRoom (r : Int) : AV × Store := out1 (.one (.dat I)) [] (r, ())
theorem w_spec_PieceRoom (x : FAr [.one (.dat tPiece), .one (.dat I)] []) : evBodyK Try.prog C_spec_PieceRoom O_spec_PieceRoom L_spec_PieceRoom 122 (encAr [.one (.dat tPiece), .one (.dat I)] [] x).1 (encAr [.one (.dat tPiece), .one (.dat I)] [] x).2 (fun v s => some (v, s)) =
    spec_PieceRoomK x.1 x.2.1 (fun r => some (out_spec_PieceRoom r)) := by kernel_rfl
theorem sem_spec_PieceRoom : ∀ x y, (fun x => spec_PieceRoom x.1 x.2.1) x = some y → SemCall Try.prog 122 (encAr [.one (.dat tPiece), .one (.dat I)] [] x).1 (encAr [.one (.dat tPiece), .one (.dat I)] [] x).2 (out_spec_PieceRoom y).1 (out_spec_PieceRoom y).2 :=
  sem_of folP okP tabP (Oracle.of_ok (Oracle.cons_ok ok_spec_PieceValid (Oracle.cons_ok ok_spec_l1In (Oracle.cons_ok ok_spec_l3First Oracle.nil_ok)))) lf_spec_PieceRoom fun x => (w_spec_PieceRoom x).trans (spec_PieceRoom_eq x.1 x.2.1 _)
noncomputable def c_spec_PieceRoom : Con := Con.shape [.one (.dat tPiece), .one (.dat I)] [] (fun x => spec_PieceRoom x.1 x.2.1) out_spec_PieceRoom
theorem ok_spec_PieceRoom : ConOk Try.prog 122 c_spec_PieceRoom := Con.shape_ok sem_spec_PieceRoom

/-! 82 -/
def C_spec_RetypePiece : Cfg := { T := tab, hint := fun _ => { mu := [3, 6, 12, 45], keepR := [1, 2, 3, 6, 7, 8, 9, 10, 11, 21, 28, 36], res := [6, 7, 8], keepL := [(0, [1, 2, 3, 6, 9, 10, 11])], keepX := [(0, [3, 6, 9, 10]), (1, [1, 2, 3, 6, 9, 10, 11])] }, mode := fun _ => .borrow }
noncomputable def O_spec_RetypePiece : Oracle := Oracle.of [(67, c_spec_l1In), (122, c_spec_PieceRoom), (123, c_spec_l3First)]
def sh_spec_RetypePiece_l0 : List (Nat × S2) := [(1, .one (.dat I)), (2, .one (.dat I)), (3, .one (.ptr 0 0 0)), (6, .one (.ptr 1 0 0)), (9, .one (.all 2)), (10, .one (.dat I)), (11, .one (.dat I))]
def bs_spec_RetypePiece_l0 : List SB := [.one tPiece, .one tPiece, .data I]
noncomputable def lc_spec_RetypePiece_l0 : LCon := LCon.shape1 sh_spec_RetypePiece_l0 bs_spec_RetypePiece_l0 spec_RetypePiece_l0 (fun a => (.exit 0, encSt [(3, .one (.ptr 0 0 0)), (6, .one (.ptr 1 0 0)), (9, .one (.all 2)), (10, .one (.dat I))] [.one tPiece, .one tPiece, .data I] a))
noncomputable def L_spec_RetypePiece : Loops := Loops.of [(0, lc_spec_RetypePiece_l0)]
theorem r_spec_RetypePiece_l0 (x : FSt sh_spec_RetypePiece_l0 bs_spec_RetypePiece_l0) : roundK C_spec_RetypePiece.T (C_spec_RetypePiece.hint 82) C_spec_RetypePiece.mode O_spec_RetypePiece L_spec_RetypePiece 0 (lp Try.prog 82 0) (encSt sh_spec_RetypePiece_l0 bs_spec_RetypePiece_l0 x) (fun e s => some (e, s)) =
    spec_RetypePiece_l0K x.1 x.2.1 x.2.2.1 x.2.2.2.1 x.2.2.2.2.1 x.2.2.2.2.2.1 x.2.2.2.2.2.2.1 (fun y => some (Ex.normal, encSt sh_spec_RetypePiece_l0 bs_spec_RetypePiece_l0 y)) (fun a => some (Ex.exit 0, encSt [(3, .one (.ptr 0 0 0)), (6, .one (.ptr 1 0 0)), (9, .one (.all 2)), (10, .one (.dat I))] [.one tPiece, .one tPiece, .data I] a)) := by kernel_rfl
theorem lo_spec_RetypePiece_l0 : LConOk C_spec_RetypePiece.T (C_spec_RetypePiece.hint 82) C_spec_RetypePiece.mode O_spec_RetypePiece L_spec_RetypePiece 0 (lp Try.prog 82 0) lc_spec_RetypePiece_l0 :=
  LCon.shape1_ok (fun a => by simp) fun x => (r_spec_RetypePiece_l0 x).trans (spec_RetypePiece_l0_eq x.1 x.2.1 x.2.2.1 x.2.2.2.1 x.2.2.2.2.1 x.2.2.2.2.2.1 x.2.2.2.2.2.2.1 _ _)
theorem lf_spec_RetypePiece : LoopsFn Try.prog C_spec_RetypePiece O_spec_RetypePiece 82 L_spec_RetypePiece := LoopsFn.all (by kernel_rfl) (by decide) ⟨lo_spec_RetypePiece_l0, trivial⟩
def out_spec_RetypePiece (r : DPiece × Bool × (List Int)) : AV × Store := outT [.one (.dat tPiece), .one (.all 0), .one (.dat .bool)] [.data I] (r.1, r.2.1, r.2.2, ())
theorem w_spec_RetypePiece (x : FAr [.one (.dat tPiece), .one (.dat I), .one (.dat I)] []) : evBodyK Try.prog C_spec_RetypePiece O_spec_RetypePiece L_spec_RetypePiece 82 (encAr [.one (.dat tPiece), .one (.dat I), .one (.dat I)] [] x).1 (encAr [.one (.dat tPiece), .one (.dat I), .one (.dat I)] [] x).2 (fun v s => some (v, s)) =
    spec_RetypePieceK x.1 x.2.1 x.2.2.1 (fun r => some (out_spec_RetypePiece r)) := by kernel_rfl
theorem sem_spec_RetypePiece : ∀ x y, (fun x => spec_RetypePiece x.1 x.2.1 x.2.2.1) x = some y → SemCall Try.prog 82 (encAr [.one (.dat tPiece), .one (.dat I), .one (.dat I)] [] x).1 (encAr [.one (.dat tPiece), .one (.dat I), .one (.dat I)] [] x).2 (out_spec_RetypePiece y).1 (out_spec_RetypePiece y).2 :=
  sem_of folP okP tabP (Oracle.of_ok (Oracle.cons_ok ok_spec_l1In (Oracle.cons_ok ok_spec_PieceRoom (Oracle.cons_ok ok_spec_l3First Oracle.nil_ok)))) lf_spec_RetypePiece fun x => (w_spec_RetypePiece x).trans (spec_RetypePiece_eq x.1 x.2.1 x.2.2.1 _)
noncomputable def c_spec_RetypePiece : Con := Con.shape [.one (.dat tPiece), .one (.dat I), .one (.dat I)] [] (fun x => spec_RetypePiece x.1 x.2.1 x.2.2.1) out_spec_RetypePiece
theorem ok_spec_RetypePiece : ConOk Try.prog 82 c_spec_RetypePiece := Con.shape_ok sem_spec_RetypePiece

/-! 30 -/
def C_spec_SysRetype : Cfg := { T := tab, hint := fun _ => { mu := [6, 8, 12, 20, 76], keepR := [1, 2, 3, 6, 7, 8, 9, 10, 11, 12, 14, 17, 31, 36, 46, 57], res := [6, 7], fillR := true }, mode := fun _ => .borrow }
noncomputable def O_spec_SysRetype : Oracle := Oracle.of [(23, c_spec_KernelValid), (60, c_spec_l25Copy), (61, c_spec_l25Slot), (81, c_spec_ObjectBits), (82, c_spec_RetypePiece)]
noncomputable def L_spec_SysRetype : Loops := Loops.of []
theorem lf_spec_SysRetype : LoopsFn Try.prog C_spec_SysRetype O_spec_SysRetype 30 L_spec_SysRetype := LoopsFn.nil' (by kernel_rfl)
def out_spec_SysRetype (r : Int × Int × Int × Int × Int × (List DEntry) × (List Int)) : AV × Store := outT [.agg [.dat I, .dat I, .dat I, .all 0, .all 1, .dat I], .one (.dat I)] [.data tEntry, .data I] (r.1, r.2.1, r.2.2.1, r.2.2.2.1, r.2.2.2.2.1, r.2.2.2.2.2.1, r.2.2.2.2.2.2, ())
theorem w_spec_SysRetype (x : FAr [.one (.dat tKernel), .one (.dat I), .one (.dat I)] []) : evBodyK Try.prog C_spec_SysRetype O_spec_SysRetype L_spec_SysRetype 30 (encAr [.one (.dat tKernel), .one (.dat I), .one (.dat I)] [] x).1 (encAr [.one (.dat tKernel), .one (.dat I), .one (.dat I)] [] x).2 (fun v s => some (v, s)) =
    spec_SysRetypeK x.1 x.2.1 x.2.2.1 (fun r => some (out_spec_SysRetype r)) := by kernel_rfl
theorem sem_spec_SysRetype : ∀ x y, (fun x => spec_SysRetype x.1 x.2.1 x.2.2.1) x = some y → SemCall Try.prog 30 (encAr [.one (.dat tKernel), .one (.dat I), .one (.dat I)] [] x).1 (encAr [.one (.dat tKernel), .one (.dat I), .one (.dat I)] [] x).2 (out_spec_SysRetype y).1 (out_spec_SysRetype y).2 :=
  sem_of folP okP tabP (Oracle.of_ok (Oracle.cons_ok ok_spec_KernelValid (Oracle.cons_ok ok_spec_l25Copy (Oracle.cons_ok ok_spec_l25Slot (Oracle.cons_ok ok_spec_ObjectBits (Oracle.cons_ok ok_spec_RetypePiece Oracle.nil_ok)))))) lf_spec_SysRetype fun x => (w_spec_SysRetype x).trans (spec_SysRetype_eq x.1 x.2.1 x.2.2.1 _)
noncomputable def c_spec_SysRetype : Con := Con.shape [.one (.dat tKernel), .one (.dat I), .one (.dat I)] [] (fun x => spec_SysRetype x.1 x.2.1 x.2.2.1) out_spec_SysRetype
theorem ok_spec_SysRetype : ConOk Try.prog 30 c_spec_SysRetype := Con.shape_ok sem_spec_SysRetype

/-! 108 -/
def C_spec_l5Live : Cfg := { T := tab, hint := fun _ => { keepR := [0, 1, 4], res := [4] }, mode := fun _ => .borrow }
noncomputable def O_spec_l5Live : Oracle := Oracle.of [(65, c_spec_DerivationValid), (67, c_spec_l1In)]
noncomputable def L_spec_l5Live : Loops := Loops.of []
theorem lf_spec_l5Live : LoopsFn Try.prog C_spec_l5Live O_spec_l5Live 108 L_spec_l5Live := LoopsFn.nil' (by kernel_rfl)
def out_spec_l5Live (r : Bool) : AV × Store := out1 (.one (.dat .bool)) [] (r, ())
theorem w_spec_l5Live (x : FAr [.one (.dat (.sl tEntry)), .one (.dat I)] []) : evBodyK Try.prog C_spec_l5Live O_spec_l5Live L_spec_l5Live 108 (encAr [.one (.dat (.sl tEntry)), .one (.dat I)] [] x).1 (encAr [.one (.dat (.sl tEntry)), .one (.dat I)] [] x).2 (fun v s => some (v, s)) =
    spec_l5LiveK x.1 x.2.1 (fun r => some (out_spec_l5Live r)) := by kernel_rfl
theorem sem_spec_l5Live : ∀ x y, (fun x => spec_l5Live x.1 x.2.1) x = some y → SemCall Try.prog 108 (encAr [.one (.dat (.sl tEntry)), .one (.dat I)] [] x).1 (encAr [.one (.dat (.sl tEntry)), .one (.dat I)] [] x).2 (out_spec_l5Live y).1 (out_spec_l5Live y).2 :=
  sem_of folP okP tabP (Oracle.of_ok (Oracle.cons_ok ok_spec_DerivationValid (Oracle.cons_ok ok_spec_l1In Oracle.nil_ok))) lf_spec_l5Live fun x => (w_spec_l5Live x).trans (spec_l5Live_eq x.1 x.2.1 _)
noncomputable def c_spec_l5Live : Con := Con.shape [.one (.dat (.sl tEntry)), .one (.dat I)] [] (fun x => spec_l5Live x.1 x.2.1) out_spec_l5Live
theorem ok_spec_l5Live : ConOk Try.prog 108 c_spec_l5Live := Con.shape_ok sem_spec_l5Live

/-! 109 -/
def C_spec_MintCap : Cfg := { T := tab, hint := fun _ => { mu := [6, 8], keepR := [1, 2, 3, 6, 7, 8, 51, 60], res := [6, 7] }, mode := fun _ => .borrow }
noncomputable def O_spec_MintCap : Oracle := Oracle.of [(67, c_spec_l1In), (110, c_spec_CapValid), (134, c_spec_RightsValid), (135, c_spec_l2Badged)]
noncomputable def L_spec_MintCap : Loops := Loops.of []
theorem lf_spec_MintCap : LoopsFn Try.prog C_spec_MintCap O_spec_MintCap 109 L_spec_MintCap := LoopsFn.nil' (by kernel_rfl)
def out_spec_MintCap (r : DCap × Bool) : AV × Store := outT [.one (.dat tCap), .one (.dat .bool)] [] (r.1, r.2, ())
theorem w_spec_MintCap (x : FAr [.one (.dat tCap), .one (.dat I), .one (.dat I)] []) : evBodyK Try.prog C_spec_MintCap O_spec_MintCap L_spec_MintCap 109 (encAr [.one (.dat tCap), .one (.dat I), .one (.dat I)] [] x).1 (encAr [.one (.dat tCap), .one (.dat I), .one (.dat I)] [] x).2 (fun v s => some (v, s)) =
    spec_MintCapK x.1 x.2.1 x.2.2.1 (fun r => some (out_spec_MintCap r)) := by kernel_rfl
theorem sem_spec_MintCap : ∀ x y, (fun x => spec_MintCap x.1 x.2.1 x.2.2.1) x = some y → SemCall Try.prog 109 (encAr [.one (.dat tCap), .one (.dat I), .one (.dat I)] [] x).1 (encAr [.one (.dat tCap), .one (.dat I), .one (.dat I)] [] x).2 (out_spec_MintCap y).1 (out_spec_MintCap y).2 :=
  sem_of folP okP tabP (Oracle.of_ok (Oracle.cons_ok ok_spec_l1In (Oracle.cons_ok ok_spec_CapValid (Oracle.cons_ok ok_spec_RightsValid (Oracle.cons_ok ok_spec_l2Badged Oracle.nil_ok))))) lf_spec_MintCap fun x => (w_spec_MintCap x).trans (spec_MintCap_eq x.1 x.2.1 x.2.2.1 _)
noncomputable def c_spec_MintCap : Con := Con.shape [.one (.dat tCap), .one (.dat I), .one (.dat I)] [] (fun x => spec_MintCap x.1 x.2.1 x.2.2.1) out_spec_MintCap
theorem ok_spec_MintCap : ConOk Try.prog 109 c_spec_MintCap := Con.shape_ok sem_spec_MintCap

/-! 62 -/
def C_spec_DeriveCap : Cfg := { T := tab, hint := fun _ => { mu := [12, 18, 21, 46], keepR := [0, 1, 2, 3, 8, 9, 10, 11, 12, 13, 17, 39], res := [8, 9, 10] }, mode := fun _ => .borrow }
noncomputable def O_spec_DeriveCap : Oracle := Oracle.of [(108, c_spec_l5Live), (109, c_spec_MintCap)]
noncomputable def L_spec_DeriveCap : Loops := Loops.of []
theorem lf_spec_DeriveCap : LoopsFn Try.prog C_spec_DeriveCap O_spec_DeriveCap 62 L_spec_DeriveCap := LoopsFn.nil' (by kernel_rfl)
def out_spec_DeriveCap (r : Int × Bool × (List DEntry)) : AV × Store := outT [.one (.all 0), .one (.dat I), .one (.dat .bool)] [.data tEntry] (r.1, r.2.1, r.2.2, ())
theorem w_spec_DeriveCap (x : FAr [.one (.dat (.sl tEntry)), .one (.dat I), .one (.dat I), .one (.dat I)] []) : evBodyK Try.prog C_spec_DeriveCap O_spec_DeriveCap L_spec_DeriveCap 62 (encAr [.one (.dat (.sl tEntry)), .one (.dat I), .one (.dat I), .one (.dat I)] [] x).1 (encAr [.one (.dat (.sl tEntry)), .one (.dat I), .one (.dat I), .one (.dat I)] [] x).2 (fun v s => some (v, s)) =
    spec_DeriveCapK x.1 x.2.1 x.2.2.1 x.2.2.2.1 (fun r => some (out_spec_DeriveCap r)) := by kernel_rfl
theorem sem_spec_DeriveCap : ∀ x y, (fun x => spec_DeriveCap x.1 x.2.1 x.2.2.1 x.2.2.2.1) x = some y → SemCall Try.prog 62 (encAr [.one (.dat (.sl tEntry)), .one (.dat I), .one (.dat I), .one (.dat I)] [] x).1 (encAr [.one (.dat (.sl tEntry)), .one (.dat I), .one (.dat I), .one (.dat I)] [] x).2 (out_spec_DeriveCap y).1 (out_spec_DeriveCap y).2 :=
  sem_of folP okP tabP (Oracle.of_ok (Oracle.cons_ok ok_spec_l5Live (Oracle.cons_ok ok_spec_MintCap Oracle.nil_ok))) lf_spec_DeriveCap fun x => (w_spec_DeriveCap x).trans (spec_DeriveCap_eq x.1 x.2.1 x.2.2.1 x.2.2.2.1 _)
noncomputable def c_spec_DeriveCap : Con := Con.shape [.one (.dat (.sl tEntry)), .one (.dat I), .one (.dat I), .one (.dat I)] [] (fun x => spec_DeriveCap x.1 x.2.1 x.2.2.1 x.2.2.2.1) out_spec_DeriveCap
theorem ok_spec_DeriveCap : ConOk Try.prog 62 c_spec_DeriveCap := Con.shape_ok sem_spec_DeriveCap

/-! 21 -/
def C_spec_SysMint : Cfg := { T := tab, hint := fun _ => { mu := [10, 12, 25, 63], keepR := [1, 2, 3, 4, 5, 10, 11, 12, 14, 15, 16, 17, 18, 19, 22, 46, 51, 68], res := [10, 11], order := [(10, [(0, .read), (1, .read), (2, .read), (3, .read), (4, .read), (5, .read), (6, .read), (7, .read), (8, .forced), (9, .forced), (10, .forced), (11, .read), (12, .read), (13, .read), (14, .forced), (15, .forced), (16, .forced)])], fillR := true }, mode := fun _ => .borrow }
noncomputable def O_spec_SysMint : Oracle := Oracle.of [(23, c_spec_KernelValid), (60, c_spec_l25Copy), (61, c_spec_l25Slot), (62, c_spec_DeriveCap)]
noncomputable def L_spec_SysMint : Loops := Loops.of []
theorem lf_spec_SysMint : LoopsFn Try.prog C_spec_SysMint O_spec_SysMint 21 L_spec_SysMint := LoopsFn.nil' (by kernel_rfl)
def out_spec_SysMint (r : Int × Int × Int × Int × Int × (List DEntry) × (List Int)) : AV × Store := outT [.agg [.dat I, .dat I, .dat I, .all 0, .all 1, .dat I], .one (.dat I)] [.data tEntry, .data I] (r.1, r.2.1, r.2.2.1, r.2.2.2.1, r.2.2.2.2.1, r.2.2.2.2.2.1, r.2.2.2.2.2.2, ())
theorem w_spec_SysMint (x : FAr [.one (.dat tKernel), .one (.dat I), .one (.dat I), .one (.dat I), .one (.dat I)] []) : evBodyK Try.prog C_spec_SysMint O_spec_SysMint L_spec_SysMint 21 (encAr [.one (.dat tKernel), .one (.dat I), .one (.dat I), .one (.dat I), .one (.dat I)] [] x).1 (encAr [.one (.dat tKernel), .one (.dat I), .one (.dat I), .one (.dat I), .one (.dat I)] [] x).2 (fun v s => some (v, s)) =
    spec_SysMintK x.1 x.2.1 x.2.2.1 x.2.2.2.1 x.2.2.2.2.1 (fun r => some (out_spec_SysMint r)) := by kernel_rfl
theorem sem_spec_SysMint : ∀ x y, (fun x => spec_SysMint x.1 x.2.1 x.2.2.1 x.2.2.2.1 x.2.2.2.2.1) x = some y → SemCall Try.prog 21 (encAr [.one (.dat tKernel), .one (.dat I), .one (.dat I), .one (.dat I), .one (.dat I)] [] x).1 (encAr [.one (.dat tKernel), .one (.dat I), .one (.dat I), .one (.dat I), .one (.dat I)] [] x).2 (out_spec_SysMint y).1 (out_spec_SysMint y).2 :=
  sem_of folP okP tabP (Oracle.of_ok (Oracle.cons_ok ok_spec_KernelValid (Oracle.cons_ok ok_spec_l25Copy (Oracle.cons_ok ok_spec_l25Slot (Oracle.cons_ok ok_spec_DeriveCap Oracle.nil_ok))))) lf_spec_SysMint fun x => (w_spec_SysMint x).trans (spec_SysMint_eq x.1 x.2.1 x.2.2.1 x.2.2.2.1 x.2.2.2.2.1 _)
noncomputable def c_spec_SysMint : Con := Con.shape [.one (.dat tKernel), .one (.dat I), .one (.dat I), .one (.dat I), .one (.dat I)] [] (fun x => spec_SysMint x.1 x.2.1 x.2.2.1 x.2.2.2.1 x.2.2.2.2.1) out_spec_SysMint
theorem ok_spec_SysMint : ConOk Try.prog 21 c_spec_SysMint := Con.shape_ok sem_spec_SysMint

/-! 102 -/
def C_spec_RemoveCap : Cfg := { T := tab, hint := fun _ => { mu := [11, 14], keepR := [0, 1, 4, 5, 6, 10, 20, 37], res := [4], keepL := [(0, [0, 1, 5, 6])], keepX := [(0, [1, 5]), (1, [0, 1, 5, 6])] }, mode := fun _ => .borrow }
noncomputable def O_spec_RemoveCap : Oracle := Oracle.of [(108, c_spec_l5Live)]
def sh_spec_RemoveCap_l0 : List (Nat × S2) := [(0, .one (.dat (.sl tEntry))), (1, .one (.dat I)), (5, .one (.all 0)), (6, .one (.dat I))]
def bs_spec_RemoveCap_l0 : List SB := [.data tEntry]
noncomputable def lc_spec_RemoveCap_l0 : LCon := LCon.shape1 sh_spec_RemoveCap_l0 bs_spec_RemoveCap_l0 spec_RemoveCap_l0 (fun a => (.exit 0, encSt [(1, .one (.dat I)), (5, .one (.all 0))] [.data tEntry] a))
noncomputable def L_spec_RemoveCap : Loops := Loops.of [(0, lc_spec_RemoveCap_l0)]
theorem r_spec_RemoveCap_l0 (x : FSt sh_spec_RemoveCap_l0 bs_spec_RemoveCap_l0) : roundK C_spec_RemoveCap.T (C_spec_RemoveCap.hint 102) C_spec_RemoveCap.mode O_spec_RemoveCap L_spec_RemoveCap 0 (lp Try.prog 102 0) (encSt sh_spec_RemoveCap_l0 bs_spec_RemoveCap_l0 x) (fun e s => some (e, s)) =
    spec_RemoveCap_l0K x.1 x.2.1 x.2.2.1 x.2.2.2.1 (fun y => some (Ex.normal, encSt sh_spec_RemoveCap_l0 bs_spec_RemoveCap_l0 y)) (fun a => some (Ex.exit 0, encSt [(1, .one (.dat I)), (5, .one (.all 0))] [.data tEntry] a)) := by kernel_rfl
theorem lo_spec_RemoveCap_l0 : LConOk C_spec_RemoveCap.T (C_spec_RemoveCap.hint 102) C_spec_RemoveCap.mode O_spec_RemoveCap L_spec_RemoveCap 0 (lp Try.prog 102 0) lc_spec_RemoveCap_l0 :=
  LCon.shape1_ok (fun a => by simp) fun x => (r_spec_RemoveCap_l0 x).trans (spec_RemoveCap_l0_eq x.1 x.2.1 x.2.2.1 x.2.2.2.1 _ _)
theorem lf_spec_RemoveCap : LoopsFn Try.prog C_spec_RemoveCap O_spec_RemoveCap 102 L_spec_RemoveCap := LoopsFn.all (by kernel_rfl) (by decide) ⟨lo_spec_RemoveCap_l0, trivial⟩
def out_spec_RemoveCap (r : (List DEntry)) : AV × Store := out1 (.one (.all 0)) [.data tEntry] (r, ())
theorem w_spec_RemoveCap (x : FAr [.one (.dat (.sl tEntry)), .one (.dat I)] []) : evBodyK Try.prog C_spec_RemoveCap O_spec_RemoveCap L_spec_RemoveCap 102 (encAr [.one (.dat (.sl tEntry)), .one (.dat I)] [] x).1 (encAr [.one (.dat (.sl tEntry)), .one (.dat I)] [] x).2 (fun v s => some (v, s)) =
    spec_RemoveCapK x.1 x.2.1 (fun r => some (out_spec_RemoveCap r)) := by kernel_rfl
theorem sem_spec_RemoveCap : ∀ x y, (fun x => spec_RemoveCap x.1 x.2.1) x = some y → SemCall Try.prog 102 (encAr [.one (.dat (.sl tEntry)), .one (.dat I)] [] x).1 (encAr [.one (.dat (.sl tEntry)), .one (.dat I)] [] x).2 (out_spec_RemoveCap y).1 (out_spec_RemoveCap y).2 :=
  sem_of folP okP tabP (Oracle.of_ok (Oracle.cons_ok ok_spec_l5Live Oracle.nil_ok)) lf_spec_RemoveCap fun x => (w_spec_RemoveCap x).trans (spec_RemoveCap_eq x.1 x.2.1 _)
noncomputable def c_spec_RemoveCap : Con := Con.shape [.one (.dat (.sl tEntry)), .one (.dat I)] [] (fun x => spec_RemoveCap x.1 x.2.1) out_spec_RemoveCap
theorem ok_spec_RemoveCap : ConOk Try.prog 102 c_spec_RemoveCap := Con.shape_ok sem_spec_RemoveCap

/-! 47 -/
def C_spec_SysDelete : Cfg := { T := tab, hint := fun _ => { mu := [4, 6, 14, 31], keepR := [1, 2, 4, 5, 6, 8, 11, 22], res := [4, 5], order := [(7, [(0, .read), (1, .read), (2, .read), (3, .read), (4, .forced), (5, .forced), (6, .forced), (7, .forced), (8, .forced), (9, .forced)])], fillR := true }, mode := fun _ => .borrow }
noncomputable def O_spec_SysDelete : Oracle := Oracle.of [(23, c_spec_KernelValid), (60, c_spec_l25Copy), (61, c_spec_l25Slot), (102, c_spec_RemoveCap)]
noncomputable def L_spec_SysDelete : Loops := Loops.of []
theorem lf_spec_SysDelete : LoopsFn Try.prog C_spec_SysDelete O_spec_SysDelete 47 L_spec_SysDelete := LoopsFn.nil' (by kernel_rfl)
def out_spec_SysDelete (r : Int × Int × Int × Int × Int × (List DEntry) × (List Int)) : AV × Store := outT [.agg [.dat I, .dat I, .dat I, .all 0, .all 1, .dat I], .one (.dat I)] [.data tEntry, .data I] (r.1, r.2.1, r.2.2.1, r.2.2.2.1, r.2.2.2.2.1, r.2.2.2.2.2.1, r.2.2.2.2.2.2, ())
theorem w_spec_SysDelete (x : FAr [.one (.dat tKernel), .one (.dat I)] []) : evBodyK Try.prog C_spec_SysDelete O_spec_SysDelete L_spec_SysDelete 47 (encAr [.one (.dat tKernel), .one (.dat I)] [] x).1 (encAr [.one (.dat tKernel), .one (.dat I)] [] x).2 (fun v s => some (v, s)) =
    spec_SysDeleteK x.1 x.2.1 (fun r => some (out_spec_SysDelete r)) := by kernel_rfl
theorem sem_spec_SysDelete : ∀ x y, (fun x => spec_SysDelete x.1 x.2.1) x = some y → SemCall Try.prog 47 (encAr [.one (.dat tKernel), .one (.dat I)] [] x).1 (encAr [.one (.dat tKernel), .one (.dat I)] [] x).2 (out_spec_SysDelete y).1 (out_spec_SysDelete y).2 :=
  sem_of folP okP tabP (Oracle.of_ok (Oracle.cons_ok ok_spec_KernelValid (Oracle.cons_ok ok_spec_l25Copy (Oracle.cons_ok ok_spec_l25Slot (Oracle.cons_ok ok_spec_RemoveCap Oracle.nil_ok))))) lf_spec_SysDelete fun x => (w_spec_SysDelete x).trans (spec_SysDelete_eq x.1 x.2.1 _)
noncomputable def c_spec_SysDelete : Con := Con.shape [.one (.dat tKernel), .one (.dat I)] [] (fun x => spec_SysDelete x.1 x.2.1) out_spec_SysDelete
theorem ok_spec_SysDelete : ConOk Try.prog 47 c_spec_SysDelete := Con.shape_ok sem_spec_SysDelete

/-! 140 -/
def C_spec_l5Below : Cfg := { T := tab, hint := fun _ => { keepR := [0, 1, 2, 6, 11, 19], res := [6], keepL := [(0, [0, 1, 2])], keepX := [(0, [1, 2]), (1, [0, 1, 2])] }, mode := fun _ => .borrow }
noncomputable def O_spec_l5Below : Oracle := Oracle.of []
def sh_spec_l5Below_l0 : List (Nat × S2) := [(0, .one (.dat (.sl tEntry))), (1, .one (.dat I)), (2, .one (.dat I))]
def bs_spec_l5Below_l0 : List SB := []
noncomputable def lc_spec_l5Below_l0 : LCon := LCon.shape1 sh_spec_l5Below_l0 bs_spec_l5Below_l0 spec_l5Below_l0 (fun a => (.exit 0, encSt [(1, .one (.dat I)), (2, .one (.dat I))] [] a))
noncomputable def L_spec_l5Below : Loops := Loops.of [(0, lc_spec_l5Below_l0)]
theorem r_spec_l5Below_l0 (x : FSt sh_spec_l5Below_l0 bs_spec_l5Below_l0) : roundK C_spec_l5Below.T (C_spec_l5Below.hint 140) C_spec_l5Below.mode O_spec_l5Below L_spec_l5Below 0 (lp Try.prog 140 0) (encSt sh_spec_l5Below_l0 bs_spec_l5Below_l0 x) (fun e s => some (e, s)) =
    spec_l5Below_l0K x.1 x.2.1 x.2.2.1 (fun y => some (Ex.normal, encSt sh_spec_l5Below_l0 bs_spec_l5Below_l0 y)) (fun a => some (Ex.exit 0, encSt [(1, .one (.dat I)), (2, .one (.dat I))] [] a)) := by kernel_rfl
theorem lo_spec_l5Below_l0 : LConOk C_spec_l5Below.T (C_spec_l5Below.hint 140) C_spec_l5Below.mode O_spec_l5Below L_spec_l5Below 0 (lp Try.prog 140 0) lc_spec_l5Below_l0 :=
  LCon.shape1_ok (fun a => by simp) fun x => (r_spec_l5Below_l0 x).trans (spec_l5Below_l0_eq x.1 x.2.1 x.2.2.1 _ _)
theorem lf_spec_l5Below : LoopsFn Try.prog C_spec_l5Below O_spec_l5Below 140 L_spec_l5Below := LoopsFn.all (by kernel_rfl) (by decide) ⟨lo_spec_l5Below_l0, trivial⟩
def out_spec_l5Below (r : Bool) : AV × Store := out1 (.one (.dat .bool)) [] (r, ())
theorem w_spec_l5Below (x : FAr [.one (.dat (.sl tEntry)), .one (.dat I), .one (.dat I)] []) : evBodyK Try.prog C_spec_l5Below O_spec_l5Below L_spec_l5Below 140 (encAr [.one (.dat (.sl tEntry)), .one (.dat I), .one (.dat I)] [] x).1 (encAr [.one (.dat (.sl tEntry)), .one (.dat I), .one (.dat I)] [] x).2 (fun v s => some (v, s)) =
    spec_l5BelowK x.1 x.2.1 x.2.2.1 (fun r => some (out_spec_l5Below r)) := by kernel_rfl
theorem sem_spec_l5Below : ∀ x y, (fun x => spec_l5Below x.1 x.2.1 x.2.2.1) x = some y → SemCall Try.prog 140 (encAr [.one (.dat (.sl tEntry)), .one (.dat I), .one (.dat I)] [] x).1 (encAr [.one (.dat (.sl tEntry)), .one (.dat I), .one (.dat I)] [] x).2 (out_spec_l5Below y).1 (out_spec_l5Below y).2 :=
  sem_of folP okP tabP (Oracle.of_ok Oracle.nil_ok) lf_spec_l5Below fun x => (w_spec_l5Below x).trans (spec_l5Below_eq x.1 x.2.1 x.2.2.1 _)
noncomputable def c_spec_l5Below : Con := Con.shape [.one (.dat (.sl tEntry)), .one (.dat I), .one (.dat I)] [] (fun x => spec_l5Below x.1 x.2.1 x.2.2.1) out_spec_l5Below
theorem ok_spec_l5Below : ConOk Try.prog 140 c_spec_l5Below := Con.shape_ok sem_spec_l5Below

/-! 128 -/
def C_spec_Descendants : Cfg := { T := tab, hint := fun _ => { mu := [7, 28], keepR := [0, 1, 4, 5, 6, 18, 24], res := [4], keepL := [(0, [0, 1, 5, 6])], keepX := [(0, [5]), (1, [0, 1, 5, 6])] }, mode := fun _ => .borrow }
noncomputable def O_spec_Descendants : Oracle := Oracle.of [(108, c_spec_l5Live), (140, c_spec_l5Below)]
def sh_spec_Descendants_l0 : List (Nat × S2) := [(0, .one (.dat (.sl tEntry))), (1, .one (.dat I)), (5, .one (.all 0)), (6, .one (.dat I))]
def bs_spec_Descendants_l0 : List SB := [.data I]
noncomputable def lc_spec_Descendants_l0 : LCon := LCon.shape1 sh_spec_Descendants_l0 bs_spec_Descendants_l0 spec_Descendants_l0 (fun a => (.exit 0, encSt [(5, .one (.all 0))] [.data I] a))
noncomputable def L_spec_Descendants : Loops := Loops.of [(0, lc_spec_Descendants_l0)]
theorem r_spec_Descendants_l0 (x : FSt sh_spec_Descendants_l0 bs_spec_Descendants_l0) : roundK C_spec_Descendants.T (C_spec_Descendants.hint 128) C_spec_Descendants.mode O_spec_Descendants L_spec_Descendants 0 (lp Try.prog 128 0) (encSt sh_spec_Descendants_l0 bs_spec_Descendants_l0 x) (fun e s => some (e, s)) =
    spec_Descendants_l0K x.1 x.2.1 x.2.2.1 x.2.2.2.1 (fun y => some (Ex.normal, encSt sh_spec_Descendants_l0 bs_spec_Descendants_l0 y)) (fun a => some (Ex.exit 0, encSt [(5, .one (.all 0))] [.data I] a)) := by kernel_rfl
theorem lo_spec_Descendants_l0 : LConOk C_spec_Descendants.T (C_spec_Descendants.hint 128) C_spec_Descendants.mode O_spec_Descendants L_spec_Descendants 0 (lp Try.prog 128 0) lc_spec_Descendants_l0 :=
  LCon.shape1_ok (fun a => by simp) fun x => (r_spec_Descendants_l0 x).trans (spec_Descendants_l0_eq x.1 x.2.1 x.2.2.1 x.2.2.2.1 _ _)
theorem lf_spec_Descendants : LoopsFn Try.prog C_spec_Descendants O_spec_Descendants 128 L_spec_Descendants := LoopsFn.all (by kernel_rfl) (by decide) ⟨lo_spec_Descendants_l0, trivial⟩
def out_spec_Descendants (r : (List Int)) : AV × Store := out1 (.one (.all 0)) [.data I] (r, ())
theorem w_spec_Descendants (x : FAr [.one (.dat (.sl tEntry)), .one (.dat I)] []) : evBodyK Try.prog C_spec_Descendants O_spec_Descendants L_spec_Descendants 128 (encAr [.one (.dat (.sl tEntry)), .one (.dat I)] [] x).1 (encAr [.one (.dat (.sl tEntry)), .one (.dat I)] [] x).2 (fun v s => some (v, s)) =
    spec_DescendantsK x.1 x.2.1 (fun r => some (out_spec_Descendants r)) := by kernel_rfl
theorem sem_spec_Descendants : ∀ x y, (fun x => spec_Descendants x.1 x.2.1) x = some y → SemCall Try.prog 128 (encAr [.one (.dat (.sl tEntry)), .one (.dat I)] [] x).1 (encAr [.one (.dat (.sl tEntry)), .one (.dat I)] [] x).2 (out_spec_Descendants y).1 (out_spec_Descendants y).2 :=
  sem_of folP okP tabP (Oracle.of_ok (Oracle.cons_ok ok_spec_l5Live (Oracle.cons_ok ok_spec_l5Below Oracle.nil_ok))) lf_spec_Descendants fun x => (w_spec_Descendants x).trans (spec_Descendants_eq x.1 x.2.1 _)
noncomputable def c_spec_Descendants : Con := Con.shape [.one (.dat (.sl tEntry)), .one (.dat I)] [] (fun x => spec_Descendants x.1 x.2.1) out_spec_Descendants
theorem ok_spec_Descendants : ConOk Try.prog 128 c_spec_Descendants := Con.shape_ok sem_spec_Descendants

/-! 93 -/
def C_spec_RevokeCap : Cfg := { T := tab, hint := fun _ => { mu := [12, 15], keepR := [0, 1, 4, 5, 6, 7, 11, 22], res := [4], keepL := [(0, [5, 6, 7])], keepX := [(0, [5]), (1, [5, 6, 7])] }, mode := fun _ => .borrow }
noncomputable def O_spec_RevokeCap : Oracle := Oracle.of [(108, c_spec_l5Live), (128, c_spec_Descendants)]
def sh_spec_RevokeCap_l0 : List (Nat × S2) := [(5, .one (.all 0)), (6, .one (.dat (.sl I))), (7, .one (.dat I))]
def bs_spec_RevokeCap_l0 : List SB := [.data tEntry]
noncomputable def lc_spec_RevokeCap_l0 : LCon := LCon.shape1 sh_spec_RevokeCap_l0 bs_spec_RevokeCap_l0 spec_RevokeCap_l0 (fun a => (.exit 0, encSt [(5, .one (.all 0))] [.data tEntry] a))
noncomputable def L_spec_RevokeCap : Loops := Loops.of [(0, lc_spec_RevokeCap_l0)]
theorem r_spec_RevokeCap_l0 (x : FSt sh_spec_RevokeCap_l0 bs_spec_RevokeCap_l0) : roundK C_spec_RevokeCap.T (C_spec_RevokeCap.hint 93) C_spec_RevokeCap.mode O_spec_RevokeCap L_spec_RevokeCap 0 (lp Try.prog 93 0) (encSt sh_spec_RevokeCap_l0 bs_spec_RevokeCap_l0 x) (fun e s => some (e, s)) =
    spec_RevokeCap_l0K x.1 x.2.1 x.2.2.1 (fun y => some (Ex.normal, encSt sh_spec_RevokeCap_l0 bs_spec_RevokeCap_l0 y)) (fun a => some (Ex.exit 0, encSt [(5, .one (.all 0))] [.data tEntry] a)) := by kernel_rfl
theorem lo_spec_RevokeCap_l0 : LConOk C_spec_RevokeCap.T (C_spec_RevokeCap.hint 93) C_spec_RevokeCap.mode O_spec_RevokeCap L_spec_RevokeCap 0 (lp Try.prog 93 0) lc_spec_RevokeCap_l0 :=
  LCon.shape1_ok (fun a => by simp) fun x => (r_spec_RevokeCap_l0 x).trans (spec_RevokeCap_l0_eq x.1 x.2.1 x.2.2.1 _ _)
theorem lf_spec_RevokeCap : LoopsFn Try.prog C_spec_RevokeCap O_spec_RevokeCap 93 L_spec_RevokeCap := LoopsFn.all (by kernel_rfl) (by decide) ⟨lo_spec_RevokeCap_l0, trivial⟩
def out_spec_RevokeCap (r : (List DEntry)) : AV × Store := out1 (.one (.all 0)) [.data tEntry] (r, ())
theorem w_spec_RevokeCap (x : FAr [.one (.dat (.sl tEntry)), .one (.dat I)] []) : evBodyK Try.prog C_spec_RevokeCap O_spec_RevokeCap L_spec_RevokeCap 93 (encAr [.one (.dat (.sl tEntry)), .one (.dat I)] [] x).1 (encAr [.one (.dat (.sl tEntry)), .one (.dat I)] [] x).2 (fun v s => some (v, s)) =
    spec_RevokeCapK x.1 x.2.1 (fun r => some (out_spec_RevokeCap r)) := by kernel_rfl
theorem sem_spec_RevokeCap : ∀ x y, (fun x => spec_RevokeCap x.1 x.2.1) x = some y → SemCall Try.prog 93 (encAr [.one (.dat (.sl tEntry)), .one (.dat I)] [] x).1 (encAr [.one (.dat (.sl tEntry)), .one (.dat I)] [] x).2 (out_spec_RevokeCap y).1 (out_spec_RevokeCap y).2 :=
  sem_of folP okP tabP (Oracle.of_ok (Oracle.cons_ok ok_spec_l5Live (Oracle.cons_ok ok_spec_Descendants Oracle.nil_ok))) lf_spec_RevokeCap fun x => (w_spec_RevokeCap x).trans (spec_RevokeCap_eq x.1 x.2.1 _)
noncomputable def c_spec_RevokeCap : Con := Con.shape [.one (.dat (.sl tEntry)), .one (.dat I)] [] (fun x => spec_RevokeCap x.1 x.2.1) out_spec_RevokeCap
theorem ok_spec_RevokeCap : ConOk Try.prog 93 c_spec_RevokeCap := Con.shape_ok sem_spec_RevokeCap

/-! 39 -/
def C_spec_SysRevoke : Cfg := { T := tab, hint := fun _ => { mu := [4, 6, 15, 32], keepR := [1, 2, 4, 5, 6, 8, 9, 12, 23, 38, 58], res := [4, 5], order := [(7, [(0, .read), (1, .read), (2, .read), (3, .read), (4, .forced), (5, .forced), (6, .forced), (7, .forced), (8, .forced), (9, .forced)]), (11, [(0, .read), (1, .read), (2, .forced), (3, .forced), (4, .forced), (5, .forced), (6, .forced), (7, .read), (8, .read), (9, .read), (10, .read), (11, .forced), (12, .forced), (13, .forced), (14, .forced), (15, .forced), (16, .forced), (17, .forced)])], keepL := [(0, [4, 6, 9])], keepX := [(0, [4, 6]), (1, [4, 6, 9])], fillR := true }, mode := fun _ => .borrow }
noncomputable def O_spec_SysRevoke : Oracle := Oracle.of [(23, c_spec_KernelValid), (60, c_spec_l25Copy), (61, c_spec_l25Slot), (93, c_spec_RevokeCap)]
def sh_spec_SysRevoke_l0 : List (Nat × S2) := [(4, .one (.ptr 0 0 0)), (6, .one (.ptr 1 0 0)), (9, .one (.dat I))]
def bs_spec_SysRevoke_l0 : List SB := [.var [.dat I, .dat I, .dat I, .e0 tEntry, .e0 I, .dat I], .var [.dat I, .dat I, .dat I, .all 2, .all 3, .dat I], .data tEntry, .data I]
noncomputable def lc_spec_SysRevoke_l0 : LCon := LCon.shape1 sh_spec_SysRevoke_l0 bs_spec_SysRevoke_l0 spec_SysRevoke_l0 (fun a => (.exit 0, encSt [(4, .one (.ptr 0 0 0)), (6, .one (.ptr 1 0 0))] [.var [.dat I, .dat I, .dat I, .e0 tEntry, .e0 I, .dat I], .var [.dat I, .dat I, .dat I, .all 2, .all 3, .dat I], .data tEntry, .data I] a))
noncomputable def L_spec_SysRevoke : Loops := Loops.of [(0, lc_spec_SysRevoke_l0)]
theorem r_spec_SysRevoke_l0 (x : FSt sh_spec_SysRevoke_l0 bs_spec_SysRevoke_l0) : roundK C_spec_SysRevoke.T (C_spec_SysRevoke.hint 39) C_spec_SysRevoke.mode O_spec_SysRevoke L_spec_SysRevoke 0 (lp Try.prog 39 0) (encSt sh_spec_SysRevoke_l0 bs_spec_SysRevoke_l0 x) (fun e s => some (e, s)) =
    spec_SysRevoke_l0K x.1 x.2.1 x.2.2.1 x.2.2.2.1 x.2.2.2.2.1 x.2.2.2.2.2.1 x.2.2.2.2.2.2.1 x.2.2.2.2.2.2.2.1 x.2.2.2.2.2.2.2.2.1 x.2.2.2.2.2.2.2.2.2.1 x.2.2.2.2.2.2.2.2.2.2.1 (fun y => some (Ex.normal, encSt sh_spec_SysRevoke_l0 bs_spec_SysRevoke_l0 y)) (fun a => some (Ex.exit 0, encSt [(4, .one (.ptr 0 0 0)), (6, .one (.ptr 1 0 0))] [.var [.dat I, .dat I, .dat I, .e0 tEntry, .e0 I, .dat I], .var [.dat I, .dat I, .dat I, .all 2, .all 3, .dat I], .data tEntry, .data I] a)) := by kernel_rfl
theorem lo_spec_SysRevoke_l0 : LConOk C_spec_SysRevoke.T (C_spec_SysRevoke.hint 39) C_spec_SysRevoke.mode O_spec_SysRevoke L_spec_SysRevoke 0 (lp Try.prog 39 0) lc_spec_SysRevoke_l0 :=
  LCon.shape1_ok (fun a => by simp) fun x => (r_spec_SysRevoke_l0 x).trans (spec_SysRevoke_l0_eq x.1 x.2.1 x.2.2.1 x.2.2.2.1 x.2.2.2.2.1 x.2.2.2.2.2.1 x.2.2.2.2.2.2.1 x.2.2.2.2.2.2.2.1 x.2.2.2.2.2.2.2.2.1 x.2.2.2.2.2.2.2.2.2.1 x.2.2.2.2.2.2.2.2.2.2.1 _ _)
theorem lf_spec_SysRevoke : LoopsFn Try.prog C_spec_SysRevoke O_spec_SysRevoke 39 L_spec_SysRevoke := LoopsFn.all (by kernel_rfl) (by decide) ⟨lo_spec_SysRevoke_l0, trivial⟩
def out_spec_SysRevoke (r : Int × Int × Int × Int × Int × (List DEntry) × (List Int)) : AV × Store := outT [.agg [.dat I, .dat I, .dat I, .all 0, .all 1, .dat I], .one (.dat I)] [.data tEntry, .data I] (r.1, r.2.1, r.2.2.1, r.2.2.2.1, r.2.2.2.2.1, r.2.2.2.2.2.1, r.2.2.2.2.2.2, ())
theorem w_spec_SysRevoke (x : FAr [.one (.dat tKernel), .one (.dat I)] []) : evBodyK Try.prog C_spec_SysRevoke O_spec_SysRevoke L_spec_SysRevoke 39 (encAr [.one (.dat tKernel), .one (.dat I)] [] x).1 (encAr [.one (.dat tKernel), .one (.dat I)] [] x).2 (fun v s => some (v, s)) =
    spec_SysRevokeK x.1 x.2.1 (fun r => some (out_spec_SysRevoke r)) := by kernel_rfl
theorem sem_spec_SysRevoke : ∀ x y, (fun x => spec_SysRevoke x.1 x.2.1) x = some y → SemCall Try.prog 39 (encAr [.one (.dat tKernel), .one (.dat I)] [] x).1 (encAr [.one (.dat tKernel), .one (.dat I)] [] x).2 (out_spec_SysRevoke y).1 (out_spec_SysRevoke y).2 :=
  sem_of folP okP tabP (Oracle.of_ok (Oracle.cons_ok ok_spec_KernelValid (Oracle.cons_ok ok_spec_l25Copy (Oracle.cons_ok ok_spec_l25Slot (Oracle.cons_ok ok_spec_RevokeCap Oracle.nil_ok))))) lf_spec_SysRevoke fun x => (w_spec_SysRevoke x).trans (spec_SysRevoke_eq x.1 x.2.1 _)
noncomputable def c_spec_SysRevoke : Con := Con.shape [.one (.dat tKernel), .one (.dat I)] [] (fun x => spec_SysRevoke x.1 x.2.1) out_spec_SysRevoke
theorem ok_spec_SysRevoke : ConOk Try.prog 39 c_spec_SysRevoke := Con.shape_ok sem_spec_SysRevoke

/-! 105 -/
def C_spec_l20Rd_odd : Cfg := { T := tab, hint := fun _ => { keepR := [0, 1, 4], res := [4], base := 1 }, mode := modeOf [(55, .sub)] }
noncomputable def O_spec_l20Rd_odd : Oracle := Oracle.of [(55, c_spec_l20Rd_pick)]
noncomputable def L_spec_l20Rd_odd : Loops := Loops.of []
theorem lf_spec_l20Rd_odd : LoopsFn Try.prog C_spec_l20Rd_odd O_spec_l20Rd_odd 105 L_spec_l20Rd_odd := LoopsFn.nil' (by kernel_rfl)
def out_spec_l20Rd_odd (r : Bool × Dl20Rd) : AV × Store := out1 (.one (.dat .bool)) [.one tl20Rd] (r.1, r.2, ())
theorem w_spec_l20Rd_odd (x : FAr [.one (.ptr 0 0 0), .one (.dat I)] [.one tl20Rd]) : evBodyK Try.prog C_spec_l20Rd_odd O_spec_l20Rd_odd L_spec_l20Rd_odd 105 (encAr [.one (.ptr 0 0 0), .one (.dat I)] [.one tl20Rd] x).1 (encAr [.one (.ptr 0 0 0), .one (.dat I)] [.one tl20Rd] x).2 (fun v s => some (v, s)) =
    spec_l20Rd_oddK x.1 x.2.1 (fun r => some (out_spec_l20Rd_odd r)) := by kernel_rfl
theorem sem_spec_l20Rd_odd : ∀ x y, (fun x => spec_l20Rd_odd x.1 x.2.1) x = some y → SemCall Try.prog 105 (encAr [.one (.ptr 0 0 0), .one (.dat I)] [.one tl20Rd] x).1 (encAr [.one (.ptr 0 0 0), .one (.dat I)] [.one tl20Rd] x).2 (out_spec_l20Rd_odd y).1 (out_spec_l20Rd_odd y).2 :=
  sem_of folP okP tabP (Oracle.of_ok (Oracle.cons_ok ok_spec_l20Rd_pick Oracle.nil_ok)) lf_spec_l20Rd_odd fun x => (w_spec_l20Rd_odd x).trans (spec_l20Rd_odd_eq x.1 x.2.1 _)
noncomputable def c_spec_l20Rd_odd : Con := Con.shape [.one (.ptr 0 0 0), .one (.dat I)] [.one tl20Rd] (fun x => spec_l20Rd_odd x.1 x.2.1) out_spec_l20Rd_odd
theorem ok_spec_l20Rd_odd : ConOk Try.prog 105 c_spec_l20Rd_odd := Con.shape_ok sem_spec_l20Rd_odd

/-! 52 -/
def C_spec_l20Kernel : Cfg := { T := tab, hint := fun _ => { mu := [4, 5, 17, 39, 52, 72, 80, 93, 108], keep := [42, 55], keepR := [0, 1, 4, 5, 6, 7, 8, 21, 35, 42, 55, 75, 85, 87, 95, 103, 110], res := [4], base := 1, order := [(1, [(1, .read), (0, .pure), (5, .pure), (2, .over), (3, .pure), (4, .pure), (6, .over), (7, .read), (9, .late), (8, .forced), (10, .adopt 9), (10, .forced)]), (12, [(1, .read), (4, .pure), (0, .aside [0]), (2, .forced), (3, .forced), (5, .forced), (6, .forced), (7, .read), (8, .pure), (9, .forced)]), (15, [(3, .read), (1, .pure), (2, .pure), (5, .pure), (9, .pure), (0, .aside [0]), (4, .forced), (6, .forced), (7, .pure), (8, .pure), (10, .forced), (11, .forced), (12, .forced), (13, .forced), (14, .forced), (15, .read), (16, .pure), (17, .forced)])], keepL := [(0, [0, 1, 4, 5, 6])], keepX := [(0, [0, 1, 4, 5]), (1, [0, 1, 4, 5, 6]), (2, [0, 1, 4, 5, 6]), (3, [4, 5])] }, mode := modeOf [(55, .sub), (105, .sub)] }
noncomputable def O_spec_l20Kernel : Oracle := Oracle.of [(21, c_spec_SysMint), (30, c_spec_SysRetype), (32, c_spec_NewKernel), (39, c_spec_SysRevoke), (47, c_spec_SysDelete), (55, c_spec_l20Rd_pick), (105, c_spec_l20Rd_odd)]
def sh_spec_l20Kernel_l0 : List (Nat × S2) := [(0, .one (.ptr 0 0 0)), (1, .one (.dat I)), (4, .one (.ptr 1 0 0)), (5, .one (.ptr 2 0 0)), (6, .one (.dat I))]
def bs_spec_l20Kernel_l0 : List SB := [.one tl20Rd, .var [.dat I, .dat I, .dat I, .e0 tEntry, .e0 I, .dat I], .var [.dat I, .dat I, .dat I, .all 3, .all 4, .dat I], .data tEntry, .data I]
noncomputable def lc_spec_l20Kernel_l0 : LCon := LCon.shape1 sh_spec_l20Kernel_l0 bs_spec_l20Kernel_l0 spec_l20Kernel_l0 (fun a => (.exit 0, encSt [(0, .one (.ptr 0 0 0)), (1, .one (.dat I)), (4, .one (.ptr 1 0 0)), (5, .one (.ptr 2 0 0))] [.one tl20Rd, .var [.dat I, .dat I, .dat I, .e0 tEntry, .e0 I, .dat I], .var [.dat I, .dat I, .dat I, .all 3, .all 4, .dat I], .data tEntry, .data I] a))
noncomputable def L_spec_l20Kernel : Loops := Loops.of [(0, lc_spec_l20Kernel_l0)]
theorem r_spec_l20Kernel_l0 (x : FSt sh_spec_l20Kernel_l0 bs_spec_l20Kernel_l0) : roundK C_spec_l20Kernel.T (C_spec_l20Kernel.hint 52) C_spec_l20Kernel.mode O_spec_l20Kernel L_spec_l20Kernel 0 (lp Try.prog 52 0) (encSt sh_spec_l20Kernel_l0 bs_spec_l20Kernel_l0 x) (fun e s => some (e, s)) =
    spec_l20Kernel_l0K x.1 x.2.1 x.2.2.1 x.2.2.2.1 x.2.2.2.2.1 x.2.2.2.2.2.1 x.2.2.2.2.2.2.1 x.2.2.2.2.2.2.2.1 x.2.2.2.2.2.2.2.2.1 x.2.2.2.2.2.2.2.2.2.1 x.2.2.2.2.2.2.2.2.2.2.1 x.2.2.2.2.2.2.2.2.2.2.2.1 x.2.2.2.2.2.2.2.2.2.2.2.2.1 (fun y => some (Ex.normal, encSt sh_spec_l20Kernel_l0 bs_spec_l20Kernel_l0 y)) (fun a => some (Ex.exit 0, encSt [(0, .one (.ptr 0 0 0)), (1, .one (.dat I)), (4, .one (.ptr 1 0 0)), (5, .one (.ptr 2 0 0))] [.one tl20Rd, .var [.dat I, .dat I, .dat I, .e0 tEntry, .e0 I, .dat I], .var [.dat I, .dat I, .dat I, .all 3, .all 4, .dat I], .data tEntry, .data I] a)) := by kernel_rfl
theorem lo_spec_l20Kernel_l0 : LConOk C_spec_l20Kernel.T (C_spec_l20Kernel.hint 52) C_spec_l20Kernel.mode O_spec_l20Kernel L_spec_l20Kernel 0 (lp Try.prog 52 0) lc_spec_l20Kernel_l0 :=
  LCon.shape1_ok (fun a => by simp) fun x => (r_spec_l20Kernel_l0 x).trans (spec_l20Kernel_l0_eq x.1 x.2.1 x.2.2.1 x.2.2.2.1 x.2.2.2.2.1 x.2.2.2.2.2.1 x.2.2.2.2.2.2.1 x.2.2.2.2.2.2.2.1 x.2.2.2.2.2.2.2.2.1 x.2.2.2.2.2.2.2.2.2.1 x.2.2.2.2.2.2.2.2.2.2.1 x.2.2.2.2.2.2.2.2.2.2.2.1 x.2.2.2.2.2.2.2.2.2.2.2.2.1 _ _)
theorem lf_spec_l20Kernel : LoopsFn Try.prog C_spec_l20Kernel O_spec_l20Kernel 52 L_spec_l20Kernel := LoopsFn.all (by kernel_rfl) (by decide) ⟨lo_spec_l20Kernel_l0, trivial⟩
def out_spec_l20Kernel (r : Int × Int × Int × Int × Dl20Rd × (List DEntry) × (List Int)) : AV × Store := out1 (.agg [.dat I, .dat I, .dat I, .all 1, .all 2, .dat I]) [.one tl20Rd, .data tEntry, .data I] (r.1, r.2.1, r.2.2.1, r.2.2.2.1, r.2.2.2.2.1, r.2.2.2.2.2.1, r.2.2.2.2.2.2, ())
theorem w_spec_l20Kernel (x : FAr [.one (.ptr 0 0 0), .one (.dat I)] [.one tl20Rd]) : evBodyK Try.prog C_spec_l20Kernel O_spec_l20Kernel L_spec_l20Kernel 52 (encAr [.one (.ptr 0 0 0), .one (.dat I)] [.one tl20Rd] x).1 (encAr [.one (.ptr 0 0 0), .one (.dat I)] [.one tl20Rd] x).2 (fun v s => some (v, s)) =
    spec_l20KernelK x.1 x.2.1 (fun r => some (out_spec_l20Kernel r)) := by kernel_rfl
theorem sem_spec_l20Kernel : ∀ x y, (fun x => spec_l20Kernel x.1 x.2.1) x = some y → SemCall Try.prog 52 (encAr [.one (.ptr 0 0 0), .one (.dat I)] [.one tl20Rd] x).1 (encAr [.one (.ptr 0 0 0), .one (.dat I)] [.one tl20Rd] x).2 (out_spec_l20Kernel y).1 (out_spec_l20Kernel y).2 :=
  sem_of folP okP tabP (Oracle.of_ok (Oracle.cons_ok ok_spec_SysMint (Oracle.cons_ok ok_spec_SysRetype (Oracle.cons_ok ok_spec_NewKernel (Oracle.cons_ok ok_spec_SysRevoke (Oracle.cons_ok ok_spec_SysDelete (Oracle.cons_ok ok_spec_l20Rd_pick (Oracle.cons_ok ok_spec_l20Rd_odd Oracle.nil_ok)))))))) lf_spec_l20Kernel fun x => (w_spec_l20Kernel x).trans (spec_l20Kernel_eq x.1 x.2.1 _)
noncomputable def c_spec_l20Kernel : Con := Con.shape [.one (.ptr 0 0 0), .one (.dat I)] [.one tl20Rd] (fun x => spec_l20Kernel x.1 x.2.1) out_spec_l20Kernel
theorem ok_spec_l20Kernel : ConOk Try.prog 52 c_spec_l20Kernel := Con.shape_ok sem_spec_l20Kernel

/-! 53 -/
def C_spec_l20Site : Cfg := { T := tab, hint := fun _ => { mu := [3], keepR := [0, 3, 4], res := [4], base := 3 }, mode := modeOf [(55, .sub)] }
noncomputable def O_spec_l20Site : Oracle := Oracle.of [(55, c_spec_l20Rd_pick)]
noncomputable def L_spec_l20Site : Loops := Loops.of []
theorem lf_spec_l20Site : LoopsFn Try.prog C_spec_l20Site O_spec_l20Site 53 L_spec_l20Site := LoopsFn.nil' (by kernel_rfl)
def out_spec_l20Site (r : Int × Dl20Rd × (List DEntry) × (List Int)) : AV × Store := out1 (.one (.dat I)) [.one tl20Rd, .data tEntry, .data I] (r.1, r.2.1, r.2.2.1, r.2.2.2, ())
theorem w_spec_l20Site (x : FAr [.one (.ptr 0 0 0), .agg [.dat I, .dat I, .dat I, .all 1, .all 2, .dat I]] [.one tl20Rd, .data tEntry, .data I]) : evBodyK Try.prog C_spec_l20Site O_spec_l20Site L_spec_l20Site 53 (encAr [.one (.ptr 0 0 0), .agg [.dat I, .dat I, .dat I, .all 1, .all 2, .dat I]] [.one tl20Rd, .data tEntry, .data I] x).1 (encAr [.one (.ptr 0 0 0), .agg [.dat I, .dat I, .dat I, .all 1, .all 2, .dat I]] [.one tl20Rd, .data tEntry, .data I] x).2 (fun v s => some (v, s)) =
    spec_l20SiteK x.1 x.2.1 x.2.2.1 x.2.2.2.1 x.2.2.2.2.1 x.2.2.2.2.2.1 x.2.2.2.2.2.2.1 (fun r => some (out_spec_l20Site r)) := by kernel_rfl
theorem sem_spec_l20Site : ∀ x y, (fun x => spec_l20Site x.1 x.2.1 x.2.2.1 x.2.2.2.1 x.2.2.2.2.1 x.2.2.2.2.2.1 x.2.2.2.2.2.2.1) x = some y → SemCall Try.prog 53 (encAr [.one (.ptr 0 0 0), .agg [.dat I, .dat I, .dat I, .all 1, .all 2, .dat I]] [.one tl20Rd, .data tEntry, .data I] x).1 (encAr [.one (.ptr 0 0 0), .agg [.dat I, .dat I, .dat I, .all 1, .all 2, .dat I]] [.one tl20Rd, .data tEntry, .data I] x).2 (out_spec_l20Site y).1 (out_spec_l20Site y).2 :=
  sem_of folP okP tabP (Oracle.of_ok (Oracle.cons_ok ok_spec_l20Rd_pick Oracle.nil_ok)) lf_spec_l20Site fun x => (w_spec_l20Site x).trans (spec_l20Site_eq x.1 x.2.1 x.2.2.1 x.2.2.2.1 x.2.2.2.2.1 x.2.2.2.2.2.1 x.2.2.2.2.2.2.1 _)
noncomputable def c_spec_l20Site : Con := Con.shape [.one (.ptr 0 0 0), .agg [.dat I, .dat I, .dat I, .all 1, .all 2, .dat I]] [.one tl20Rd, .data tEntry, .data I] (fun x => spec_l20Site x.1 x.2.1 x.2.2.1 x.2.2.2.1 x.2.2.2.2.1 x.2.2.2.2.2.1 x.2.2.2.2.2.2.1) out_spec_l20Site
theorem ok_spec_l20Site : ConOk Try.prog 53 c_spec_l20Site := Con.shape_ok sem_spec_l20Site

/-! 54 -/
def C_spec_l20Rights : Cfg := { T := tab, hint := fun _ => { keepR := [0, 1, 4, 7], res := [4], base := 1 }, mode := modeOf [(55, .sub), (105, .sub)] }
noncomputable def O_spec_l20Rights : Oracle := Oracle.of [(55, c_spec_l20Rd_pick), (105, c_spec_l20Rd_odd)]
noncomputable def L_spec_l20Rights : Loops := Loops.of []
theorem lf_spec_l20Rights : LoopsFn Try.prog C_spec_l20Rights O_spec_l20Rights 54 L_spec_l20Rights := LoopsFn.nil' (by kernel_rfl)
def out_spec_l20Rights (r : Int × Dl20Rd) : AV × Store := out1 (.one (.dat I)) [.one tl20Rd] (r.1, r.2, ())
theorem w_spec_l20Rights (x : FAr [.one (.ptr 0 0 0), .one (.dat I)] [.one tl20Rd]) : evBodyK Try.prog C_spec_l20Rights O_spec_l20Rights L_spec_l20Rights 54 (encAr [.one (.ptr 0 0 0), .one (.dat I)] [.one tl20Rd] x).1 (encAr [.one (.ptr 0 0 0), .one (.dat I)] [.one tl20Rd] x).2 (fun v s => some (v, s)) =
    spec_l20RightsK x.1 x.2.1 (fun r => some (out_spec_l20Rights r)) := by kernel_rfl
theorem sem_spec_l20Rights : ∀ x y, (fun x => spec_l20Rights x.1 x.2.1) x = some y → SemCall Try.prog 54 (encAr [.one (.ptr 0 0 0), .one (.dat I)] [.one tl20Rd] x).1 (encAr [.one (.ptr 0 0 0), .one (.dat I)] [.one tl20Rd] x).2 (out_spec_l20Rights y).1 (out_spec_l20Rights y).2 :=
  sem_of folP okP tabP (Oracle.of_ok (Oracle.cons_ok ok_spec_l20Rd_pick (Oracle.cons_ok ok_spec_l20Rd_odd Oracle.nil_ok))) lf_spec_l20Rights fun x => (w_spec_l20Rights x).trans (spec_l20Rights_eq x.1 x.2.1 _)
noncomputable def c_spec_l20Rights : Con := Con.shape [.one (.ptr 0 0 0), .one (.dat I)] [.one tl20Rd] (fun x => spec_l20Rights x.1 x.2.1) out_spec_l20Rights
theorem ok_spec_l20Rights : ConOk Try.prog 54 c_spec_l20Rights := Con.shape_ok sem_spec_l20Rights

/-! 19 -/
def C_spec_DrawSysMint : Cfg := { T := tab, hint := fun _ => { mu := [2, 8, 12], keepR := [0, 2, 3, 4, 5, 6, 7, 8, 9, 10], res := [2, 3, 4, 5, 6], order := [(5, [(3, .read), (1, .pure), (2, .pure), (5, .pure), (9, .pure), (10, .pure), (0, .aside [1]), (4, .forced), (6, .forced), (7, .pure), (8, .pure), (11, .forced), (12, .pure), (13, .pure), (14, .pure), (15, .pure), (16, .forced), (17, .forced), (18, .forced), (19, .forced), (20, .forced)])] }, mode := modeOf [(52, .sub), (53, .sub), (54, .sub), (55, .sub)] }
noncomputable def O_spec_DrawSysMint : Oracle := Oracle.of [(51, c_spec_l20Open), (52, c_spec_l20Kernel), (53, c_spec_l20Site), (54, c_spec_l20Rights), (55, c_spec_l20Rd_pick)]
noncomputable def L_spec_DrawSysMint : Loops := Loops.of []
theorem lf_spec_DrawSysMint : LoopsFn Try.prog C_spec_DrawSysMint O_spec_DrawSysMint 19 L_spec_DrawSysMint := LoopsFn.nil' (by kernel_rfl)
def out_spec_DrawSysMint (r : Int × Int × Int × Int × Int × Int × Int × Int × (List DEntry) × (List Int)) : AV × Store := outT [.agg [.dat I, .dat I, .dat I, .all 0, .all 1, .dat I], .one (.dat I), .one (.dat I), .one (.dat I), .one (.dat I)] [.data tEntry, .data I] (r.1, r.2.1, r.2.2.1, r.2.2.2.1, r.2.2.2.2.1, r.2.2.2.2.2.1, r.2.2.2.2.2.2.1, r.2.2.2.2.2.2.2.1, r.2.2.2.2.2.2.2.2.1, r.2.2.2.2.2.2.2.2.2, ())
theorem w_spec_DrawSysMint (x : FAr [.one (.dat (.sl (.int .u8)))] []) : evBodyK Try.prog C_spec_DrawSysMint O_spec_DrawSysMint L_spec_DrawSysMint 19 (encAr [.one (.dat (.sl (.int .u8)))] [] x).1 (encAr [.one (.dat (.sl (.int .u8)))] [] x).2 (fun v s => some (v, s)) =
    spec_DrawSysMintK x.1 (fun r => some (out_spec_DrawSysMint r)) := by kernel_rfl
theorem sem_spec_DrawSysMint : ∀ x y, (fun x => spec_DrawSysMint x.1) x = some y → SemCall Try.prog 19 (encAr [.one (.dat (.sl (.int .u8)))] [] x).1 (encAr [.one (.dat (.sl (.int .u8)))] [] x).2 (out_spec_DrawSysMint y).1 (out_spec_DrawSysMint y).2 :=
  sem_of folP okP tabP (Oracle.of_ok (Oracle.cons_ok ok_spec_l20Open (Oracle.cons_ok ok_spec_l20Kernel (Oracle.cons_ok ok_spec_l20Site (Oracle.cons_ok ok_spec_l20Rights (Oracle.cons_ok ok_spec_l20Rd_pick Oracle.nil_ok)))))) lf_spec_DrawSysMint fun x => (w_spec_DrawSysMint x).trans (spec_DrawSysMint_eq x.1 _)
noncomputable def c_spec_DrawSysMint : Con := Con.shape [.one (.dat (.sl (.int .u8)))] [] (fun x => spec_DrawSysMint x.1) out_spec_DrawSysMint
theorem ok_spec_DrawSysMint : ConOk Try.prog 19 c_spec_DrawSysMint := Con.shape_ok sem_spec_DrawSysMint

/-! 73 -/
def C_impl_in : Cfg := { T := tab, hint := fun _ => { keepR := [0, 1, 2, 6], res := [6] }, mode := fun _ => .borrow }
noncomputable def O_impl_in : Oracle := Oracle.of []
noncomputable def L_impl_in : Loops := Loops.of []
theorem lf_impl_in : LoopsFn Try.prog C_impl_in O_impl_in 73 L_impl_in := LoopsFn.nil' (by kernel_rfl)
def out_impl_in (r : Bool) : AV × Store := out1 (.one (.dat .bool)) [] (r, ())
theorem w_impl_in (x : FAr [.one (.dat I), .one (.dat I), .one (.dat I)] []) : evBodyK Try.prog C_impl_in O_impl_in L_impl_in 73 (encAr [.one (.dat I), .one (.dat I), .one (.dat I)] [] x).1 (encAr [.one (.dat I), .one (.dat I), .one (.dat I)] [] x).2 (fun v s => some (v, s)) =
    impl_inK x.1 x.2.1 x.2.2.1 (fun r => some (out_impl_in r)) := by kernel_rfl
theorem sem_impl_in : ∀ x y, (fun x => impl_in x.1 x.2.1 x.2.2.1) x = some y → SemCall Try.prog 73 (encAr [.one (.dat I), .one (.dat I), .one (.dat I)] [] x).1 (encAr [.one (.dat I), .one (.dat I), .one (.dat I)] [] x).2 (out_impl_in y).1 (out_impl_in y).2 :=
  sem_of folP okP tabP (Oracle.of_ok Oracle.nil_ok) lf_impl_in fun x => (w_impl_in x).trans (impl_in_eq x.1 x.2.1 x.2.2.1 _)
noncomputable def c_impl_in : Con := Con.shape [.one (.dat I), .one (.dat I), .one (.dat I)] [] (fun x => impl_in x.1 x.2.1 x.2.2.1) out_impl_in
theorem ok_impl_in : ConOk Try.prog 73 c_impl_in := Con.shape_ok sem_impl_in

/-! 71 -/
def C_impl_PieceValid : Cfg := { T := tab, hint := fun _ => { keepR := [1, 2], res := [2], order := [(1, [(0, .forced), (1, .forced), (2, .forced), (3, .forced), (4, .read), (5, .read), (6, .forced), (7, .forced), (8, .forced), (9, .forced), (10, .forced), (11, .forced), (12, .forced), (13, .read), (14, .read), (15, .forced), (16, .forced), (17, .forced), (18, .forced), (19, .forced), (20, .forced), (21, .forced), (22, .read), (23, .read), (24, .forced), (25, .forced), (26, .forced), (27, .forced), (28, .forced), (29, .forced)])] }, mode := fun _ => .borrow }
noncomputable def O_impl_PieceValid : Oracle := Oracle.of [(73, c_impl_in)]
noncomputable def L_impl_PieceValid : Loops := Loops.of []
theorem lf_impl_PieceValid : LoopsFn Try.prog C_impl_PieceValid O_impl_PieceValid 71 L_impl_PieceValid := LoopsFn.nil' (by kernel_rfl)
def out_impl_PieceValid (r : Bool) : AV × Store := out1 (.one (.dat .bool)) [] (r, ())
theorem w_impl_PieceValid (x : FAr [.one (.dat tPiece)] []) : evBodyK Try.prog C_impl_PieceValid O_impl_PieceValid L_impl_PieceValid 71 (encAr [.one (.dat tPiece)] [] x).1 (encAr [.one (.dat tPiece)] [] x).2 (fun v s => some (v, s)) =
    impl_PieceValidK x.1 (fun r => some (out_impl_PieceValid r)) := by kernel_rfl
theorem sem_impl_PieceValid : ∀ x y, (fun x => impl_PieceValid x.1) x = some y → SemCall Try.prog 71 (encAr [.one (.dat tPiece)] [] x).1 (encAr [.one (.dat tPiece)] [] x).2 (out_impl_PieceValid y).1 (out_impl_PieceValid y).2 :=
  sem_of folP okP tabP (Oracle.of_ok (Oracle.cons_ok ok_impl_in Oracle.nil_ok)) lf_impl_PieceValid fun x => (w_impl_PieceValid x).trans (impl_PieceValid_eq x.1 _)
noncomputable def c_impl_PieceValid : Con := Con.shape [.one (.dat tPiece)] [] (fun x => impl_PieceValid x.1) out_impl_PieceValid
theorem ok_impl_PieceValid : ConOk Try.prog 71 c_impl_PieceValid := Con.shape_ok sem_impl_PieceValid

/-! 117 -/
def C_impl_isObject : Cfg := { T := tab, hint := fun _ => { keepR := [0, 2], res := [2] }, mode := fun _ => .borrow }
noncomputable def O_impl_isObject : Oracle := Oracle.of [(73, c_impl_in)]
noncomputable def L_impl_isObject : Loops := Loops.of []
theorem lf_impl_isObject : LoopsFn Try.prog C_impl_isObject O_impl_isObject 117 L_impl_isObject := LoopsFn.nil' (by kernel_rfl)
def out_impl_isObject (r : Bool) : AV × Store := out1 (.one (.dat .bool)) [] (r, ())
theorem w_impl_isObject (x : FAr [.one (.dat I)] []) : evBodyK Try.prog C_impl_isObject O_impl_isObject L_impl_isObject 117 (encAr [.one (.dat I)] [] x).1 (encAr [.one (.dat I)] [] x).2 (fun v s => some (v, s)) =
    impl_isObjectK x.1 (fun r => some (out_impl_isObject r)) := by kernel_rfl
theorem sem_impl_isObject : ∀ x y, (fun x => impl_isObject x.1) x = some y → SemCall Try.prog 117 (encAr [.one (.dat I)] [] x).1 (encAr [.one (.dat I)] [] x).2 (out_impl_isObject y).1 (out_impl_isObject y).2 :=
  sem_of folP okP tabP (Oracle.of_ok (Oracle.cons_ok ok_impl_in Oracle.nil_ok)) lf_impl_isObject fun x => (w_impl_isObject x).trans (impl_isObject_eq x.1 _)
noncomputable def c_impl_isObject : Con := Con.shape [.one (.dat I)] [] (fun x => impl_isObject x.1) out_impl_isObject
theorem ok_impl_isObject : ConOk Try.prog 117 c_impl_isObject := Con.shape_ok sem_impl_isObject

/-! 112 -/
def C_impl_RightsValid : Cfg := { T := tab, hint := fun _ => { keepR := [0, 2], res := [2] }, mode := fun _ => .borrow }
noncomputable def O_impl_RightsValid : Oracle := Oracle.of [(73, c_impl_in)]
noncomputable def L_impl_RightsValid : Loops := Loops.of []
theorem lf_impl_RightsValid : LoopsFn Try.prog C_impl_RightsValid O_impl_RightsValid 112 L_impl_RightsValid := LoopsFn.nil' (by kernel_rfl)
def out_impl_RightsValid (r : Bool) : AV × Store := out1 (.one (.dat .bool)) [] (r, ())
theorem w_impl_RightsValid (x : FAr [.one (.dat I)] []) : evBodyK Try.prog C_impl_RightsValid O_impl_RightsValid L_impl_RightsValid 112 (encAr [.one (.dat I)] [] x).1 (encAr [.one (.dat I)] [] x).2 (fun v s => some (v, s)) =
    impl_RightsValidK x.1 (fun r => some (out_impl_RightsValid r)) := by kernel_rfl
theorem sem_impl_RightsValid : ∀ x y, (fun x => impl_RightsValid x.1) x = some y → SemCall Try.prog 112 (encAr [.one (.dat I)] [] x).1 (encAr [.one (.dat I)] [] x).2 (out_impl_RightsValid y).1 (out_impl_RightsValid y).2 :=
  sem_of folP okP tabP (Oracle.of_ok (Oracle.cons_ok ok_impl_in Oracle.nil_ok)) lf_impl_RightsValid fun x => (w_impl_RightsValid x).trans (impl_RightsValid_eq x.1 _)
noncomputable def c_impl_RightsValid : Con := Con.shape [.one (.dat I)] [] (fun x => impl_RightsValid x.1) out_impl_RightsValid
theorem ok_impl_RightsValid : ConOk Try.prog 112 c_impl_RightsValid := Con.shape_ok sem_impl_RightsValid

/-! 118 -/
def C_impl_badged : Cfg := { T := tab, hint := fun _ => { keepR := [0, 2], res := [2] }, mode := fun _ => .borrow }
noncomputable def O_impl_badged : Oracle := Oracle.of []
noncomputable def L_impl_badged : Loops := Loops.of []
theorem lf_impl_badged : LoopsFn Try.prog C_impl_badged O_impl_badged 118 L_impl_badged := LoopsFn.nil' (by kernel_rfl)
def out_impl_badged (r : Bool) : AV × Store := out1 (.one (.dat .bool)) [] (r, ())
theorem w_impl_badged (x : FAr [.one (.dat I)] []) : evBodyK Try.prog C_impl_badged O_impl_badged L_impl_badged 118 (encAr [.one (.dat I)] [] x).1 (encAr [.one (.dat I)] [] x).2 (fun v s => some (v, s)) =
    impl_badgedK x.1 (fun r => some (out_impl_badged r)) := by kernel_rfl
theorem sem_impl_badged : ∀ x y, (fun x => impl_badged x.1) x = some y → SemCall Try.prog 118 (encAr [.one (.dat I)] [] x).1 (encAr [.one (.dat I)] [] x).2 (out_impl_badged y).1 (out_impl_badged y).2 :=
  sem_of folP okP tabP (Oracle.of_ok Oracle.nil_ok) lf_impl_badged fun x => (w_impl_badged x).trans (impl_badged_eq x.1 _)
noncomputable def c_impl_badged : Con := Con.shape [.one (.dat I)] [] (fun x => impl_badged x.1) out_impl_badged
theorem ok_impl_badged : ConOk Try.prog 118 c_impl_badged := Con.shape_ok sem_impl_badged

/-! 77 -/
def C_impl_CapValid : Cfg := { T := tab, hint := fun _ => { keepR := [1, 2, 5], res := [2] }, mode := fun _ => .borrow }
noncomputable def O_impl_CapValid : Oracle := Oracle.of [(73, c_impl_in), (112, c_impl_RightsValid), (117, c_impl_isObject), (118, c_impl_badged)]
noncomputable def L_impl_CapValid : Loops := Loops.of []
theorem lf_impl_CapValid : LoopsFn Try.prog C_impl_CapValid O_impl_CapValid 77 L_impl_CapValid := LoopsFn.nil' (by kernel_rfl)
def out_impl_CapValid (r : Bool) : AV × Store := out1 (.one (.dat .bool)) [] (r, ())
theorem w_impl_CapValid (x : FAr [.one (.dat tCap)] []) : evBodyK Try.prog C_impl_CapValid O_impl_CapValid L_impl_CapValid 77 (encAr [.one (.dat tCap)] [] x).1 (encAr [.one (.dat tCap)] [] x).2 (fun v s => some (v, s)) =
    impl_CapValidK x.1 (fun r => some (out_impl_CapValid r)) := by kernel_rfl
theorem sem_impl_CapValid : ∀ x y, (fun x => impl_CapValid x.1) x = some y → SemCall Try.prog 77 (encAr [.one (.dat tCap)] [] x).1 (encAr [.one (.dat tCap)] [] x).2 (out_impl_CapValid y).1 (out_impl_CapValid y).2 :=
  sem_of folP okP tabP (Oracle.of_ok (Oracle.cons_ok ok_impl_in (Oracle.cons_ok ok_impl_RightsValid (Oracle.cons_ok ok_impl_isObject (Oracle.cons_ok ok_impl_badged Oracle.nil_ok))))) lf_impl_CapValid fun x => (w_impl_CapValid x).trans (impl_CapValid_eq x.1 _)
noncomputable def c_impl_CapValid : Con := Con.shape [.one (.dat tCap)] [] (fun x => impl_CapValid x.1) out_impl_CapValid
theorem ok_impl_CapValid : ConOk Try.prog 77 c_impl_CapValid := Con.shape_ok sem_impl_CapValid

/-! 27 -/
def C_impl_CapWithin : Cfg := { T := tab, hint := fun _ => { keepR := [2, 3, 4], res := [4] }, mode := fun _ => .borrow }
noncomputable def O_impl_CapWithin : Oracle := Oracle.of [(77, c_impl_CapValid)]
noncomputable def L_impl_CapWithin : Loops := Loops.of []
theorem lf_impl_CapWithin : LoopsFn Try.prog C_impl_CapWithin O_impl_CapWithin 27 L_impl_CapWithin := LoopsFn.nil' (by kernel_rfl)
def out_impl_CapWithin (r : Bool) : AV × Store := out1 (.one (.dat .bool)) [] (r, ())
theorem w_impl_CapWithin (x : FAr [.one (.dat tCap), .one (.dat tCap)] []) : evBodyK Try.prog C_impl_CapWithin O_impl_CapWithin L_impl_CapWithin 27 (encAr [.one (.dat tCap), .one (.dat tCap)] [] x).1 (encAr [.one (.dat tCap), .one (.dat tCap)] [] x).2 (fun v s => some (v, s)) =
    impl_CapWithinK x.1 x.2.1 (fun r => some (out_impl_CapWithin r)) := by kernel_rfl
theorem sem_impl_CapWithin : ∀ x y, (fun x => impl_CapWithin x.1 x.2.1) x = some y → SemCall Try.prog 27 (encAr [.one (.dat tCap), .one (.dat tCap)] [] x).1 (encAr [.one (.dat tCap), .one (.dat tCap)] [] x).2 (out_impl_CapWithin y).1 (out_impl_CapWithin y).2 :=
  sem_of folP okP tabP (Oracle.of_ok (Oracle.cons_ok ok_impl_CapValid Oracle.nil_ok)) lf_impl_CapWithin fun x => (w_impl_CapWithin x).trans (impl_CapWithin_eq x.1 x.2.1 _)
noncomputable def c_impl_CapWithin : Con := Con.shape [.one (.dat tCap), .one (.dat tCap)] [] (fun x => impl_CapWithin x.1 x.2.1) out_impl_CapWithin
theorem ok_impl_CapWithin : ConOk Try.prog 27 c_impl_CapWithin := Con.shape_ok sem_impl_CapWithin

/-! 70 -/
def C_impl_DerivationValid : Cfg := { T := tab, hint := fun _ => { mu := [4], keepR := [0, 2, 3, 4, 5, 6, 7, 8, 29, 57], res := [2], order := [(6, [(0, .forced), (1, .forced), (2, .forced), (3, .forced), (4, .forced), (5, .forced), (6, .forced), (7, .forced), (8, .forced), (9, .read), (10, .forced), (11, .forced), (12, .forced), (13, .forced), (14, .forced), (15, .forced), (16, .read), (17, .read), (18, .read), (19, .forced), (20, .forced), (21, .forced), (22, .forced), (23, .forced), (24, .forced), (25, .forced), (26, .forced), (27, .forced)])], keepL := [(0, [0, 5, 6, 7])], keepX := [(0, [0]), (1, [0, 5, 6, 7])] }, mode := fun _ => .borrow }
noncomputable def O_impl_DerivationValid : Oracle := Oracle.of [(27, c_impl_CapWithin), (73, c_impl_in), (77, c_impl_CapValid)]
def sh_impl_DerivationValid_l0 : List (Nat × S2) := [(0, .one (.dat (.sl tEntry))), (5, .one (.dat (.sl tEntry))), (6, .one (.dat I)), (7, .one (.dat I))]
def bs_impl_DerivationValid_l0 : List SB := []
noncomputable def lc_impl_DerivationValid_l0 : LCon := LCon.shape sh_impl_DerivationValid_l0 bs_impl_DerivationValid_l0 impl_DerivationValid_l0 (fun a => (.exit 0, encSt [(0, .one (.dat (.sl tEntry)))] [] a)) (fun b => encSt [(2, .one (.dat .bool))] [] b)
noncomputable def L_impl_DerivationValid : Loops := Loops.of [(0, lc_impl_DerivationValid_l0)]
theorem r_impl_DerivationValid_l0 (x : FSt sh_impl_DerivationValid_l0 bs_impl_DerivationValid_l0) : roundK C_impl_DerivationValid.T (C_impl_DerivationValid.hint 70) C_impl_DerivationValid.mode O_impl_DerivationValid L_impl_DerivationValid 0 (lp Try.prog 70 0) (encSt sh_impl_DerivationValid_l0 bs_impl_DerivationValid_l0 x) (fun e s => some (e, s)) =
    impl_DerivationValid_l0K x.1 x.2.1 x.2.2.1 x.2.2.2.1 (fun y => some (Ex.normal, encSt sh_impl_DerivationValid_l0 bs_impl_DerivationValid_l0 y)) (fun a => some (Ex.exit 0, encSt [(0, .one (.dat (.sl tEntry)))] [] a)) (fun b => some (Ex.ret, encSt [(2, .one (.dat .bool))] [] b)) := by kernel_rfl
theorem lo_impl_DerivationValid_l0 : LConOk C_impl_DerivationValid.T (C_impl_DerivationValid.hint 70) C_impl_DerivationValid.mode O_impl_DerivationValid L_impl_DerivationValid 0 (lp Try.prog 70 0) lc_impl_DerivationValid_l0 :=
  LCon.shape_ok (fun a => by simp) fun x => (r_impl_DerivationValid_l0 x).trans (impl_DerivationValid_l0_eq x.1 x.2.1 x.2.2.1 x.2.2.2.1 _ _ _)
theorem lf_impl_DerivationValid : LoopsFn Try.prog C_impl_DerivationValid O_impl_DerivationValid 70 L_impl_DerivationValid := LoopsFn.all (by kernel_rfl) (by decide) ⟨lo_impl_DerivationValid_l0, trivial⟩
def out_impl_DerivationValid (r : Bool) : AV × Store := out1 (.one (.dat .bool)) [] (r, ())
theorem w_impl_DerivationValid (x : FAr [.one (.dat (.sl tEntry))] []) : evBodyK Try.prog C_impl_DerivationValid O_impl_DerivationValid L_impl_DerivationValid 70 (encAr [.one (.dat (.sl tEntry))] [] x).1 (encAr [.one (.dat (.sl tEntry))] [] x).2 (fun v s => some (v, s)) =
    impl_DerivationValidK x.1 (fun r => some (out_impl_DerivationValid r)) := by kernel_rfl
theorem sem_impl_DerivationValid : ∀ x y, (fun x => impl_DerivationValid x.1) x = some y → SemCall Try.prog 70 (encAr [.one (.dat (.sl tEntry))] [] x).1 (encAr [.one (.dat (.sl tEntry))] [] x).2 (out_impl_DerivationValid y).1 (out_impl_DerivationValid y).2 :=
  sem_of folP okP tabP (Oracle.of_ok (Oracle.cons_ok ok_impl_CapWithin (Oracle.cons_ok ok_impl_in (Oracle.cons_ok ok_impl_CapValid Oracle.nil_ok)))) lf_impl_DerivationValid fun x => (w_impl_DerivationValid x).trans (impl_DerivationValid_eq x.1 _)
noncomputable def c_impl_DerivationValid : Con := Con.shape [.one (.dat (.sl tEntry))] [] (fun x => impl_DerivationValid x.1) out_impl_DerivationValid
theorem ok_impl_DerivationValid : ConOk Try.prog 70 c_impl_DerivationValid := Con.shape_ok sem_impl_DerivationValid

/-! 115 -/
def C_slices_Index_int : Cfg := { T := tab, hint := fun _ => { keepR := [0, 1, 4, 5, 7, 8, 9, 16], res := [4], keepL := [(0, [0, 1, 7, 8])], keepX := [(0, []), (1, [0, 1, 7, 8])] }, mode := fun _ => .borrow }
noncomputable def O_slices_Index_int : Oracle := Oracle.of []
def sh_slices_Index_int_l0 : List (Nat × S2) := [(0, .one (.dat (.sl I))), (1, .one (.dat I)), (7, .one (.dat I)), (8, .one (.dat I))]
def bs_slices_Index_int_l0 : List SB := []
noncomputable def lc_slices_Index_int_l0 : LCon := LCon.shape sh_slices_Index_int_l0 bs_slices_Index_int_l0 slices_Index_int_l0 (fun a => (.exit 0, encSt [] [] a)) (fun b => encSt [(4, .one (.dat I))] [] b)
noncomputable def L_slices_Index_int : Loops := Loops.of [(0, lc_slices_Index_int_l0)]
theorem r_slices_Index_int_l0 (x : FSt sh_slices_Index_int_l0 bs_slices_Index_int_l0) : roundK C_slices_Index_int.T (C_slices_Index_int.hint 115) C_slices_Index_int.mode O_slices_Index_int L_slices_Index_int 0 (lp Try.prog 115 0) (encSt sh_slices_Index_int_l0 bs_slices_Index_int_l0 x) (fun e s => some (e, s)) =
    slices_Index_int_l0K x.1 x.2.1 x.2.2.1 x.2.2.2.1 (fun y => some (Ex.normal, encSt sh_slices_Index_int_l0 bs_slices_Index_int_l0 y)) (fun a => some (Ex.exit 0, encSt [] [] a)) (fun b => some (Ex.ret, encSt [(4, .one (.dat I))] [] b)) := by kernel_rfl
theorem lo_slices_Index_int_l0 : LConOk C_slices_Index_int.T (C_slices_Index_int.hint 115) C_slices_Index_int.mode O_slices_Index_int L_slices_Index_int 0 (lp Try.prog 115 0) lc_slices_Index_int_l0 :=
  LCon.shape_ok (fun a => by simp) fun x => (r_slices_Index_int_l0 x).trans (slices_Index_int_l0_eq x.1 x.2.1 x.2.2.1 x.2.2.2.1 _ _ _)
theorem lf_slices_Index_int : LoopsFn Try.prog C_slices_Index_int O_slices_Index_int 115 L_slices_Index_int := LoopsFn.all (by kernel_rfl) (by decide) ⟨lo_slices_Index_int_l0, trivial⟩
def out_slices_Index_int (r : Int) : AV × Store := out1 (.one (.dat I)) [] (r, ())
theorem w_slices_Index_int (x : FAr [.one (.dat (.sl I)), .one (.dat I)] []) : evBodyK Try.prog C_slices_Index_int O_slices_Index_int L_slices_Index_int 115 (encAr [.one (.dat (.sl I)), .one (.dat I)] [] x).1 (encAr [.one (.dat (.sl I)), .one (.dat I)] [] x).2 (fun v s => some (v, s)) =
    slices_Index_intK x.1 x.2.1 (fun r => some (out_slices_Index_int r)) := by kernel_rfl
theorem sem_slices_Index_int : ∀ x y, (fun x => slices_Index_int x.1 x.2.1) x = some y → SemCall Try.prog 115 (encAr [.one (.dat (.sl I)), .one (.dat I)] [] x).1 (encAr [.one (.dat (.sl I)), .one (.dat I)] [] x).2 (out_slices_Index_int y).1 (out_slices_Index_int y).2 :=
  sem_of folP okP tabP (Oracle.of_ok Oracle.nil_ok) lf_slices_Index_int fun x => (w_slices_Index_int x).trans (slices_Index_int_eq x.1 x.2.1 _)
noncomputable def c_slices_Index_int : Con := Con.shape [.one (.dat (.sl I)), .one (.dat I)] [] (fun x => slices_Index_int x.1 x.2.1) out_slices_Index_int
theorem ok_slices_Index_int : ConOk Try.prog 115 c_slices_Index_int := Con.shape_ok sem_slices_Index_int

/-! 74 -/
def C_slices_Contains_int : Cfg := { T := tab, hint := fun _ => { keepR := [0, 1, 4], res := [4] }, mode := fun _ => .borrow }
noncomputable def O_slices_Contains_int : Oracle := Oracle.of [(115, c_slices_Index_int)]
noncomputable def L_slices_Contains_int : Loops := Loops.of []
theorem lf_slices_Contains_int : LoopsFn Try.prog C_slices_Contains_int O_slices_Contains_int 74 L_slices_Contains_int := LoopsFn.nil' (by kernel_rfl)
def out_slices_Contains_int (r : Bool) : AV × Store := out1 (.one (.dat .bool)) [] (r, ())
theorem w_slices_Contains_int (x : FAr [.one (.dat (.sl I)), .one (.dat I)] []) : evBodyK Try.prog C_slices_Contains_int O_slices_Contains_int L_slices_Contains_int 74 (encAr [.one (.dat (.sl I)), .one (.dat I)] [] x).1 (encAr [.one (.dat (.sl I)), .one (.dat I)] [] x).2 (fun v s => some (v, s)) =
    slices_Contains_intK x.1 x.2.1 (fun r => some (out_slices_Contains_int r)) := by kernel_rfl
theorem sem_slices_Contains_int : ∀ x y, (fun x => slices_Contains_int x.1 x.2.1) x = some y → SemCall Try.prog 74 (encAr [.one (.dat (.sl I)), .one (.dat I)] [] x).1 (encAr [.one (.dat (.sl I)), .one (.dat I)] [] x).2 (out_slices_Contains_int y).1 (out_slices_Contains_int y).2 :=
  sem_of folP okP tabP (Oracle.of_ok (Oracle.cons_ok ok_slices_Index_int Oracle.nil_ok)) lf_slices_Contains_int fun x => (w_slices_Contains_int x).trans (slices_Contains_int_eq x.1 x.2.1 _)
noncomputable def c_slices_Contains_int : Con := Con.shape [.one (.dat (.sl I)), .one (.dat I)] [] (fun x => slices_Contains_int x.1 x.2.1) out_slices_Contains_int
theorem ok_slices_Contains_int : ConOk Try.prog 74 c_slices_Contains_int := Con.shape_ok sem_slices_Contains_int

/-! 72 -/
def C_impl_PlacesValid : Cfg := { T := tab, hint := fun _ => { keepR := [0, 2, 3, 4, 5, 6, 7, 8, 25], res := [2], keepL := [(0, [0, 5, 6, 7])], keepX := [(0, [0]), (1, [0, 5, 6, 7])] }, mode := fun _ => .borrow }
noncomputable def O_impl_PlacesValid : Oracle := Oracle.of [(73, c_impl_in), (74, c_slices_Contains_int)]
def sh_impl_PlacesValid_l0 : List (Nat × S2) := [(0, .one (.dat (.sl I))), (5, .one (.dat (.sl I))), (6, .one (.dat I)), (7, .one (.dat I))]
def bs_impl_PlacesValid_l0 : List SB := []
noncomputable def lc_impl_PlacesValid_l0 : LCon := LCon.shape sh_impl_PlacesValid_l0 bs_impl_PlacesValid_l0 impl_PlacesValid_l0 (fun a => (.exit 0, encSt [(0, .one (.dat (.sl I)))] [] a)) (fun b => encSt [(2, .one (.dat .bool))] [] b)
noncomputable def L_impl_PlacesValid : Loops := Loops.of [(0, lc_impl_PlacesValid_l0)]
theorem r_impl_PlacesValid_l0 (x : FSt sh_impl_PlacesValid_l0 bs_impl_PlacesValid_l0) : roundK C_impl_PlacesValid.T (C_impl_PlacesValid.hint 72) C_impl_PlacesValid.mode O_impl_PlacesValid L_impl_PlacesValid 0 (lp Try.prog 72 0) (encSt sh_impl_PlacesValid_l0 bs_impl_PlacesValid_l0 x) (fun e s => some (e, s)) =
    impl_PlacesValid_l0K x.1 x.2.1 x.2.2.1 x.2.2.2.1 (fun y => some (Ex.normal, encSt sh_impl_PlacesValid_l0 bs_impl_PlacesValid_l0 y)) (fun a => some (Ex.exit 0, encSt [(0, .one (.dat (.sl I)))] [] a)) (fun b => some (Ex.ret, encSt [(2, .one (.dat .bool))] [] b)) := by kernel_rfl
theorem lo_impl_PlacesValid_l0 : LConOk C_impl_PlacesValid.T (C_impl_PlacesValid.hint 72) C_impl_PlacesValid.mode O_impl_PlacesValid L_impl_PlacesValid 0 (lp Try.prog 72 0) lc_impl_PlacesValid_l0 :=
  LCon.shape_ok (fun a => by simp) fun x => (r_impl_PlacesValid_l0 x).trans (impl_PlacesValid_l0_eq x.1 x.2.1 x.2.2.1 x.2.2.2.1 _ _ _)
theorem lf_impl_PlacesValid : LoopsFn Try.prog C_impl_PlacesValid O_impl_PlacesValid 72 L_impl_PlacesValid := LoopsFn.all (by kernel_rfl) (by decide) ⟨lo_impl_PlacesValid_l0, trivial⟩
def out_impl_PlacesValid (r : Bool) : AV × Store := out1 (.one (.dat .bool)) [] (r, ())
theorem w_impl_PlacesValid (x : FAr [.one (.dat (.sl I))] []) : evBodyK Try.prog C_impl_PlacesValid O_impl_PlacesValid L_impl_PlacesValid 72 (encAr [.one (.dat (.sl I))] [] x).1 (encAr [.one (.dat (.sl I))] [] x).2 (fun v s => some (v, s)) =
    impl_PlacesValidK x.1 (fun r => some (out_impl_PlacesValid r)) := by kernel_rfl
theorem sem_impl_PlacesValid : ∀ x y, (fun x => impl_PlacesValid x.1) x = some y → SemCall Try.prog 72 (encAr [.one (.dat (.sl I))] [] x).1 (encAr [.one (.dat (.sl I))] [] x).2 (out_impl_PlacesValid y).1 (out_impl_PlacesValid y).2 :=
  sem_of folP okP tabP (Oracle.of_ok (Oracle.cons_ok ok_impl_in (Oracle.cons_ok ok_slices_Contains_int Oracle.nil_ok))) lf_impl_PlacesValid fun x => (w_impl_PlacesValid x).trans (impl_PlacesValid_eq x.1 _)
noncomputable def c_impl_PlacesValid : Con := Con.shape [.one (.dat (.sl I))] [] (fun x => impl_PlacesValid x.1) out_impl_PlacesValid
theorem ok_impl_PlacesValid : ConOk Try.prog 72 c_impl_PlacesValid := Con.shape_ok sem_impl_PlacesValid

/-! 76 -/
def C_impl_KernelValid_c1 : Cfg := { T := tab, hint := fun _ => { keepR := [0, 1, 3], res := [3] }, mode := fun _ => .borrow }
noncomputable def O_impl_KernelValid_c1 : Oracle := Oracle.of []
noncomputable def L_impl_KernelValid_c1 : Loops := Loops.of []
theorem lf_impl_KernelValid_c1 : LoopsFn Try.prog C_impl_KernelValid_c1 O_impl_KernelValid_c1 76 L_impl_KernelValid_c1 := LoopsFn.nil' (by kernel_rfl)
def out_impl_KernelValid_c1 (r : Bool) : AV × Store := out1 (.one (.dat .bool)) [] (r, ())
theorem w_impl_KernelValid_c1 (x : FAr [.one (.dat I), .one (.cdat tKernel 0)] []) : evBodyK Try.prog C_impl_KernelValid_c1 O_impl_KernelValid_c1 L_impl_KernelValid_c1 76 (encAr [.one (.dat I), .one (.cdat tKernel 0)] [] x).1 (encAr [.one (.dat I), .one (.cdat tKernel 0)] [] x).2 (fun v s => some (v, s)) =
    impl_KernelValid_c1K x.1 x.2.1 (fun r => some (out_impl_KernelValid_c1 r)) := by kernel_rfl
theorem sem_impl_KernelValid_c1 : ∀ x y, (fun x => impl_KernelValid_c1 x.1 x.2.1) x = some y → SemCall Try.prog 76 (encAr [.one (.dat I), .one (.cdat tKernel 0)] [] x).1 (encAr [.one (.dat I), .one (.cdat tKernel 0)] [] x).2 (out_impl_KernelValid_c1 y).1 (out_impl_KernelValid_c1 y).2 :=
  sem_of folP okP tabP (Oracle.of_ok Oracle.nil_ok) lf_impl_KernelValid_c1 fun x => (w_impl_KernelValid_c1 x).trans (impl_KernelValid_c1_eq x.1 x.2.1 _)
noncomputable def c_impl_KernelValid_c1 : Con := Con.shape [.one (.dat I), .one (.cdat tKernel 0)] [] (fun x => impl_KernelValid_c1 x.1 x.2.1) out_impl_KernelValid_c1
theorem ok_impl_KernelValid_c1 : ConOk Try.prog 76 c_impl_KernelValid_c1 := Con.shape_ok sem_impl_KernelValid_c1

/-! 116 -/
def C_slices_IndexFunc_int : Cfg := { T := tab, hint := fun _ => { keepR := [0, 1, 4, 5, 7, 8, 9, 16], res := [4], keepL := [(0, [0, 1, 7, 8])], keepX := [(0, []), (1, [0, 1, 7, 8])] }, mode := fun _ => .borrow }
noncomputable def O_slices_IndexFunc_int : Oracle := Oracle.of [(76, c_impl_KernelValid_c1)]
def sh_slices_IndexFunc_int_l0 : List (Nat × S2) := [(0, .one (.dat (.sl I))), (1, .fn 76 [.cdat tKernel 0]), (7, .one (.dat I)), (8, .one (.dat I))]
def bs_slices_IndexFunc_int_l0 : List SB := []
noncomputable def lc_slices_IndexFunc_int_l0 : LCon := LCon.shape sh_slices_IndexFunc_int_l0 bs_slices_IndexFunc_int_l0 slices_IndexFunc_int_l0 (fun a => (.exit 0, encSt [] [] a)) (fun b => encSt [(4, .one (.dat I))] [] b)
noncomputable def L_slices_IndexFunc_int : Loops := Loops.of [(0, lc_slices_IndexFunc_int_l0)]
theorem r_slices_IndexFunc_int_l0 (x : FSt sh_slices_IndexFunc_int_l0 bs_slices_IndexFunc_int_l0) : roundK C_slices_IndexFunc_int.T (C_slices_IndexFunc_int.hint 116) C_slices_IndexFunc_int.mode O_slices_IndexFunc_int L_slices_IndexFunc_int 0 (lp Try.prog 116 0) (encSt sh_slices_IndexFunc_int_l0 bs_slices_IndexFunc_int_l0 x) (fun e s => some (e, s)) =
    slices_IndexFunc_int_l0K x.1 x.2.1 x.2.2.1 x.2.2.2.1 (fun y => some (Ex.normal, encSt sh_slices_IndexFunc_int_l0 bs_slices_IndexFunc_int_l0 y)) (fun a => some (Ex.exit 0, encSt [] [] a)) (fun b => some (Ex.ret, encSt [(4, .one (.dat I))] [] b)) := by kernel_rfl
theorem lo_slices_IndexFunc_int_l0 : LConOk C_slices_IndexFunc_int.T (C_slices_IndexFunc_int.hint 116) C_slices_IndexFunc_int.mode O_slices_IndexFunc_int L_slices_IndexFunc_int 0 (lp Try.prog 116 0) lc_slices_IndexFunc_int_l0 :=
  LCon.shape_ok (fun a => by simp) fun x => (r_slices_IndexFunc_int_l0 x).trans (slices_IndexFunc_int_l0_eq x.1 x.2.1 x.2.2.1 x.2.2.2.1 _ _ _)
theorem lf_slices_IndexFunc_int : LoopsFn Try.prog C_slices_IndexFunc_int O_slices_IndexFunc_int 116 L_slices_IndexFunc_int := LoopsFn.all (by kernel_rfl) (by decide) ⟨lo_slices_IndexFunc_int_l0, trivial⟩
def out_slices_IndexFunc_int (r : Int) : AV × Store := out1 (.one (.dat I)) [] (r, ())
theorem w_slices_IndexFunc_int (x : FAr [.one (.dat (.sl I)), .fn 76 [.cdat tKernel 0]] []) : evBodyK Try.prog C_slices_IndexFunc_int O_slices_IndexFunc_int L_slices_IndexFunc_int 116 (encAr [.one (.dat (.sl I)), .fn 76 [.cdat tKernel 0]] [] x).1 (encAr [.one (.dat (.sl I)), .fn 76 [.cdat tKernel 0]] [] x).2 (fun v s => some (v, s)) =
    slices_IndexFunc_intK x.1 x.2.1 (fun r => some (out_slices_IndexFunc_int r)) := by kernel_rfl
theorem sem_slices_IndexFunc_int : ∀ x y, (fun x => slices_IndexFunc_int x.1 x.2.1) x = some y → SemCall Try.prog 116 (encAr [.one (.dat (.sl I)), .fn 76 [.cdat tKernel 0]] [] x).1 (encAr [.one (.dat (.sl I)), .fn 76 [.cdat tKernel 0]] [] x).2 (out_slices_IndexFunc_int y).1 (out_slices_IndexFunc_int y).2 :=
  sem_of folP okP tabP (Oracle.of_ok (Oracle.cons_ok ok_impl_KernelValid_c1 Oracle.nil_ok)) lf_slices_IndexFunc_int fun x => (w_slices_IndexFunc_int x).trans (slices_IndexFunc_int_eq x.1 x.2.1 _)
noncomputable def c_slices_IndexFunc_int : Con := Con.shape [.one (.dat (.sl I)), .fn 76 [.cdat tKernel 0]] [] (fun x => slices_IndexFunc_int x.1 x.2.1) out_slices_IndexFunc_int
theorem ok_slices_IndexFunc_int : ConOk Try.prog 116 c_slices_IndexFunc_int := Con.shape_ok sem_slices_IndexFunc_int

/-! 75 -/
def C_slices_ContainsFunc_int : Cfg := { T := tab, hint := fun _ => { keepR := [0, 1, 4], res := [4] }, mode := fun _ => .borrow }
noncomputable def O_slices_ContainsFunc_int : Oracle := Oracle.of [(116, c_slices_IndexFunc_int)]
noncomputable def L_slices_ContainsFunc_int : Loops := Loops.of []
theorem lf_slices_ContainsFunc_int : LoopsFn Try.prog C_slices_ContainsFunc_int O_slices_ContainsFunc_int 75 L_slices_ContainsFunc_int := LoopsFn.nil' (by kernel_rfl)
def out_slices_ContainsFunc_int (r : Bool) : AV × Store := out1 (.one (.dat .bool)) [] (r, ())
theorem w_slices_ContainsFunc_int (x : FAr [.one (.dat (.sl I)), .fn 76 [.cdat tKernel 0]] []) : evBodyK Try.prog C_slices_ContainsFunc_int O_slices_ContainsFunc_int L_slices_ContainsFunc_int 75 (encAr [.one (.dat (.sl I)), .fn 76 [.cdat tKernel 0]] [] x).1 (encAr [.one (.dat (.sl I)), .fn 76 [.cdat tKernel 0]] [] x).2 (fun v s => some (v, s)) =
    slices_ContainsFunc_intK x.1 x.2.1 (fun r => some (out_slices_ContainsFunc_int r)) := by kernel_rfl
theorem sem_slices_ContainsFunc_int : ∀ x y, (fun x => slices_ContainsFunc_int x.1 x.2.1) x = some y → SemCall Try.prog 75 (encAr [.one (.dat (.sl I)), .fn 76 [.cdat tKernel 0]] [] x).1 (encAr [.one (.dat (.sl I)), .fn 76 [.cdat tKernel 0]] [] x).2 (out_slices_ContainsFunc_int y).1 (out_slices_ContainsFunc_int y).2 :=
  sem_of folP okP tabP (Oracle.of_ok (Oracle.cons_ok ok_slices_IndexFunc_int Oracle.nil_ok)) lf_slices_ContainsFunc_int fun x => (w_slices_ContainsFunc_int x).trans (slices_ContainsFunc_int_eq x.1 x.2.1 _)
noncomputable def c_slices_ContainsFunc_int : Con := Con.shape [.one (.dat (.sl I)), .fn 76 [.cdat tKernel 0]] [] (fun x => slices_ContainsFunc_int x.1 x.2.1) out_slices_ContainsFunc_int
theorem ok_slices_ContainsFunc_int : ConOk Try.prog 75 c_slices_ContainsFunc_int := Con.shape_ok sem_slices_ContainsFunc_int

/-! 26 -/
def C_impl_KernelValid : Cfg := { T := tab, hint := fun _ => { mu := [4], keepR := [1, 2, 3, 4, 26, 28, 29, 30, 31, 49], res := [2], order := [(6, [(0, .read), (1, .read), (2, .read), (3, .read), (4, .forced), (5, .forced), (6, .forced), (7, .forced), (8, .read), (9, .read), (10, .read), (11, .forced), (12, .forced), (13, .forced), (14, .forced)])], keepL := [(0, [1, 28, 29, 30])], keepX := [(0, [1]), (1, [1, 28, 29, 30])] }, mode := fun _ => .borrow }
noncomputable def O_impl_KernelValid : Oracle := Oracle.of [(70, c_impl_DerivationValid), (71, c_impl_PieceValid), (72, c_impl_PlacesValid), (73, c_impl_in), (74, c_slices_Contains_int), (75, c_slices_ContainsFunc_int)]
def sh_impl_KernelValid_l0 : List (Nat × S2) := [(1, .one (.cdat tKernel 0)), (28, .one (.dat (.sl tEntry))), (29, .one (.dat I)), (30, .one (.dat I))]
def bs_impl_KernelValid_l0 : List SB := []
noncomputable def lc_impl_KernelValid_l0 : LCon := LCon.shape sh_impl_KernelValid_l0 bs_impl_KernelValid_l0 impl_KernelValid_l0 (fun a => (.exit 0, encSt [(1, .one (.cdat tKernel 0))] [] a)) (fun b => encSt [(2, .one (.dat .bool))] [] b)
noncomputable def L_impl_KernelValid : Loops := Loops.of [(0, lc_impl_KernelValid_l0)]
theorem r_impl_KernelValid_l0 (x : FSt sh_impl_KernelValid_l0 bs_impl_KernelValid_l0) : roundK C_impl_KernelValid.T (C_impl_KernelValid.hint 26) C_impl_KernelValid.mode O_impl_KernelValid L_impl_KernelValid 0 (lp Try.prog 26 0) (encSt sh_impl_KernelValid_l0 bs_impl_KernelValid_l0 x) (fun e s => some (e, s)) =
    impl_KernelValid_l0K x.1 x.2.1 x.2.2.1 x.2.2.2.1 (fun y => some (Ex.normal, encSt sh_impl_KernelValid_l0 bs_impl_KernelValid_l0 y)) (fun a => some (Ex.exit 0, encSt [(1, .one (.cdat tKernel 0))] [] a)) (fun b => some (Ex.ret, encSt [(2, .one (.dat .bool))] [] b)) := by kernel_rfl
theorem lo_impl_KernelValid_l0 : LConOk C_impl_KernelValid.T (C_impl_KernelValid.hint 26) C_impl_KernelValid.mode O_impl_KernelValid L_impl_KernelValid 0 (lp Try.prog 26 0) lc_impl_KernelValid_l0 :=
  LCon.shape_ok (fun a => by simp) fun x => (r_impl_KernelValid_l0 x).trans (impl_KernelValid_l0_eq x.1 x.2.1 x.2.2.1 x.2.2.2.1 _ _ _)
theorem lf_impl_KernelValid : LoopsFn Try.prog C_impl_KernelValid O_impl_KernelValid 26 L_impl_KernelValid := LoopsFn.all (by kernel_rfl) (by decide) ⟨lo_impl_KernelValid_l0, trivial⟩
def out_impl_KernelValid (r : Bool) : AV × Store := out1 (.one (.dat .bool)) [] (r, ())
theorem w_impl_KernelValid (x : FAr [.one (.dat tKernel)] []) : evBodyK Try.prog C_impl_KernelValid O_impl_KernelValid L_impl_KernelValid 26 (encAr [.one (.dat tKernel)] [] x).1 (encAr [.one (.dat tKernel)] [] x).2 (fun v s => some (v, s)) =
    impl_KernelValidK x.1 (fun r => some (out_impl_KernelValid r)) := by kernel_rfl
theorem sem_impl_KernelValid : ∀ x y, (fun x => impl_KernelValid x.1) x = some y → SemCall Try.prog 26 (encAr [.one (.dat tKernel)] [] x).1 (encAr [.one (.dat tKernel)] [] x).2 (out_impl_KernelValid y).1 (out_impl_KernelValid y).2 :=
  sem_of folP okP tabP (Oracle.of_ok (Oracle.cons_ok ok_impl_DerivationValid (Oracle.cons_ok ok_impl_PieceValid (Oracle.cons_ok ok_impl_PlacesValid (Oracle.cons_ok ok_impl_in (Oracle.cons_ok ok_slices_Contains_int (Oracle.cons_ok ok_slices_ContainsFunc_int Oracle.nil_ok))))))) lf_impl_KernelValid fun x => (w_impl_KernelValid x).trans (impl_KernelValid_eq x.1 _)
noncomputable def c_impl_KernelValid : Con := Con.shape [.one (.dat tKernel)] [] (fun x => impl_KernelValid x.1) out_impl_KernelValid
theorem ok_impl_KernelValid : ConOk Try.prog 26 c_impl_KernelValid := Con.shape_ok sem_impl_KernelValid

/-! 121 -/
def C_slices_Clone_Entry : Cfg := { T := tab, hint := fun _ => { mu := [2, 7], keepR := [0, 2, 4], res := [2] }, mode := fun _ => .borrow }
noncomputable def O_slices_Clone_Entry : Oracle := Oracle.of []
noncomputable def L_slices_Clone_Entry : Loops := Loops.of []
theorem lf_slices_Clone_Entry : LoopsFn Try.prog C_slices_Clone_Entry O_slices_Clone_Entry 121 L_slices_Clone_Entry := LoopsFn.nil' (by kernel_rfl)
def out_slices_Clone_Entry (r : (List DEntry)) : AV × Store := out1 (.one (.all 0)) [.data tEntry] (r, ())
theorem w_slices_Clone_Entry (x : FAr [.one (.dat (.sl tEntry))] []) : evBodyK Try.prog C_slices_Clone_Entry O_slices_Clone_Entry L_slices_Clone_Entry 121 (encAr [.one (.dat (.sl tEntry))] [] x).1 (encAr [.one (.dat (.sl tEntry))] [] x).2 (fun v s => some (v, s)) =
    slices_Clone_EntryR x.1 (fun r => some (out_slices_Clone_Entry r)) := by kernel_rfl
theorem sem_slices_Clone_Entry : ∀ x y, (fun x => slices_Clone_Entry x.1) x = some y → SemCall Try.prog 121 (encAr [.one (.dat (.sl tEntry))] [] x).1 (encAr [.one (.dat (.sl tEntry))] [] x).2 (out_slices_Clone_Entry y).1 (out_slices_Clone_Entry y).2 :=
  sem_of folP okP tabP (Oracle.of_ok Oracle.nil_ok) lf_slices_Clone_Entry fun x => (w_slices_Clone_Entry x).trans ((slices_Clone_Entry_raw x.1 _).trans (slices_Clone_Entry_eq x.1 _))
noncomputable def c_slices_Clone_Entry : Con := Con.shape [.one (.dat (.sl tEntry))] [] (fun x => slices_Clone_Entry x.1) out_slices_Clone_Entry
theorem ok_slices_Clone_Entry : ConOk Try.prog 121 c_slices_Clone_Entry := Con.shape_ok sem_slices_Clone_Entry

/-! 120 -/
def C_slices_Clip_Entry : Cfg := { T := tab, hint := fun _ => { mu := [8], keepR := [0, 2], res := [2], base := 1 }, mode := fun _ => .borrow }
noncomputable def O_slices_Clip_Entry : Oracle := Oracle.of []
noncomputable def L_slices_Clip_Entry : Loops := Loops.of []
theorem lf_slices_Clip_Entry : LoopsFn Try.prog C_slices_Clip_Entry O_slices_Clip_Entry 120 L_slices_Clip_Entry := LoopsFn.nil' (by kernel_rfl)
def out_slices_Clip_Entry (r : (List DEntry)) : AV × Store := out1 (.one (.all 0)) [.data tEntry] (r, ())
theorem w_slices_Clip_Entry (x : FAr [.one (.all 0)] [.data tEntry]) : evBodyK Try.prog C_slices_Clip_Entry O_slices_Clip_Entry L_slices_Clip_Entry 120 (encAr [.one (.all 0)] [.data tEntry] x).1 (encAr [.one (.all 0)] [.data tEntry] x).2 (fun v s => some (v, s)) =
    slices_Clip_EntryK x.1 (fun r => some (out_slices_Clip_Entry r)) := by kernel_rfl
theorem sem_slices_Clip_Entry : ∀ x y, (fun x => slices_Clip_Entry x.1) x = some y → SemCall Try.prog 120 (encAr [.one (.all 0)] [.data tEntry] x).1 (encAr [.one (.all 0)] [.data tEntry] x).2 (out_slices_Clip_Entry y).1 (out_slices_Clip_Entry y).2 :=
  sem_of folP okP tabP (Oracle.of_ok Oracle.nil_ok) lf_slices_Clip_Entry fun x => (w_slices_Clip_Entry x).trans (slices_Clip_Entry_eq x.1 _)
noncomputable def c_slices_Clip_Entry : Con := Con.shape [.one (.all 0)] [.data tEntry] (fun x => slices_Clip_Entry x.1) out_slices_Clip_Entry
theorem ok_slices_Clip_Entry : ConOk Try.prog 120 c_slices_Clip_Entry := Con.shape_ok sem_slices_Clip_Entry

/-! 80 -/
def C_impl_clone_Entry : Cfg := { T := tab, hint := fun _ => { mu := [4], keepR := [0, 2], res := [2] }, mode := modeOf [(120, .sub)] }
noncomputable def O_impl_clone_Entry : Oracle := Oracle.of [(120, c_slices_Clip_Entry), (121, c_slices_Clone_Entry)]
noncomputable def L_impl_clone_Entry : Loops := Loops.of []
theorem lf_impl_clone_Entry : LoopsFn Try.prog C_impl_clone_Entry O_impl_clone_Entry 80 L_impl_clone_Entry := LoopsFn.nil' (by kernel_rfl)
def out_impl_clone_Entry (r : (List DEntry)) : AV × Store := out1 (.one (.all 0)) [.data tEntry] (r, ())
theorem w_impl_clone_Entry (x : FAr [.one (.dat (.sl tEntry))] []) : evBodyK Try.prog C_impl_clone_Entry O_impl_clone_Entry L_impl_clone_Entry 80 (encAr [.one (.dat (.sl tEntry))] [] x).1 (encAr [.one (.dat (.sl tEntry))] [] x).2 (fun v s => some (v, s)) =
    impl_clone_EntryK x.1 (fun r => some (out_impl_clone_Entry r)) := by kernel_rfl
theorem sem_impl_clone_Entry : ∀ x y, (fun x => impl_clone_Entry x.1) x = some y → SemCall Try.prog 80 (encAr [.one (.dat (.sl tEntry))] [] x).1 (encAr [.one (.dat (.sl tEntry))] [] x).2 (out_impl_clone_Entry y).1 (out_impl_clone_Entry y).2 :=
  sem_of folP okP tabP (Oracle.of_ok (Oracle.cons_ok ok_slices_Clip_Entry (Oracle.cons_ok ok_slices_Clone_Entry Oracle.nil_ok))) lf_impl_clone_Entry fun x => (w_impl_clone_Entry x).trans (impl_clone_Entry_eq x.1 _)
noncomputable def c_impl_clone_Entry : Con := Con.shape [.one (.dat (.sl tEntry))] [] (fun x => impl_clone_Entry x.1) out_impl_clone_Entry
theorem ok_impl_clone_Entry : ConOk Try.prog 80 c_impl_clone_Entry := Con.shape_ok sem_impl_clone_Entry

/-! 133 -/
def C_slices_Clone_int : Cfg := { T := tab, hint := fun _ => { mu := [2, 7], keepR := [0, 2, 4], res := [2] }, mode := fun _ => .borrow }
noncomputable def O_slices_Clone_int : Oracle := Oracle.of []
noncomputable def L_slices_Clone_int : Loops := Loops.of []
theorem lf_slices_Clone_int : LoopsFn Try.prog C_slices_Clone_int O_slices_Clone_int 133 L_slices_Clone_int := LoopsFn.nil' (by kernel_rfl)
def out_slices_Clone_int (r : (List Int)) : AV × Store := out1 (.one (.all 0)) [.data I] (r, ())
theorem w_slices_Clone_int (x : FAr [.one (.dat (.sl I))] []) : evBodyK Try.prog C_slices_Clone_int O_slices_Clone_int L_slices_Clone_int 133 (encAr [.one (.dat (.sl I))] [] x).1 (encAr [.one (.dat (.sl I))] [] x).2 (fun v s => some (v, s)) =
    slices_Clone_intR x.1 (fun r => some (out_slices_Clone_int r)) := by kernel_rfl
theorem sem_slices_Clone_int : ∀ x y, (fun x => slices_Clone_int x.1) x = some y → SemCall Try.prog 133 (encAr [.one (.dat (.sl I))] [] x).1 (encAr [.one (.dat (.sl I))] [] x).2 (out_slices_Clone_int y).1 (out_slices_Clone_int y).2 :=
  sem_of folP okP tabP (Oracle.of_ok Oracle.nil_ok) lf_slices_Clone_int fun x => (w_slices_Clone_int x).trans ((slices_Clone_int_raw x.1 _).trans (slices_Clone_int_eq x.1 _))
noncomputable def c_slices_Clone_int : Con := Con.shape [.one (.dat (.sl I))] [] (fun x => slices_Clone_int x.1) out_slices_Clone_int
theorem ok_slices_Clone_int : ConOk Try.prog 133 c_slices_Clone_int := Con.shape_ok sem_slices_Clone_int

/-! 132 -/
def C_slices_Clip_int : Cfg := { T := tab, hint := fun _ => { mu := [8], keepR := [0, 2], res := [2], base := 1 }, mode := fun _ => .borrow }
noncomputable def O_slices_Clip_int : Oracle := Oracle.of []
noncomputable def L_slices_Clip_int : Loops := Loops.of []
theorem lf_slices_Clip_int : LoopsFn Try.prog C_slices_Clip_int O_slices_Clip_int 132 L_slices_Clip_int := LoopsFn.nil' (by kernel_rfl)
def out_slices_Clip_int (r : (List Int)) : AV × Store := out1 (.one (.all 0)) [.data I] (r, ())
theorem w_slices_Clip_int (x : FAr [.one (.all 0)] [.data I]) : evBodyK Try.prog C_slices_Clip_int O_slices_Clip_int L_slices_Clip_int 132 (encAr [.one (.all 0)] [.data I] x).1 (encAr [.one (.all 0)] [.data I] x).2 (fun v s => some (v, s)) =
    slices_Clip_intK x.1 (fun r => some (out_slices_Clip_int r)) := by kernel_rfl
theorem sem_slices_Clip_int : ∀ x y, (fun x => slices_Clip_int x.1) x = some y → SemCall Try.prog 132 (encAr [.one (.all 0)] [.data I] x).1 (encAr [.one (.all 0)] [.data I] x).2 (out_slices_Clip_int y).1 (out_slices_Clip_int y).2 :=
  sem_of folP okP tabP (Oracle.of_ok Oracle.nil_ok) lf_slices_Clip_int fun x => (w_slices_Clip_int x).trans (slices_Clip_int_eq x.1 _)
noncomputable def c_slices_Clip_int : Con := Con.shape [.one (.all 0)] [.data I] (fun x => slices_Clip_int x.1) out_slices_Clip_int
theorem ok_slices_Clip_int : ConOk Try.prog 132 c_slices_Clip_int := Con.shape_ok sem_slices_Clip_int

/-! 106 -/
def C_impl_clone_int : Cfg := { T := tab, hint := fun _ => { mu := [4], keepR := [0, 2], res := [2] }, mode := modeOf [(132, .sub)] }
noncomputable def O_impl_clone_int : Oracle := Oracle.of [(132, c_slices_Clip_int), (133, c_slices_Clone_int)]
noncomputable def L_impl_clone_int : Loops := Loops.of []
theorem lf_impl_clone_int : LoopsFn Try.prog C_impl_clone_int O_impl_clone_int 106 L_impl_clone_int := LoopsFn.nil' (by kernel_rfl)
def out_impl_clone_int (r : (List Int)) : AV × Store := out1 (.one (.all 0)) [.data I] (r, ())
theorem w_impl_clone_int (x : FAr [.one (.dat (.sl I))] []) : evBodyK Try.prog C_impl_clone_int O_impl_clone_int L_impl_clone_int 106 (encAr [.one (.dat (.sl I))] [] x).1 (encAr [.one (.dat (.sl I))] [] x).2 (fun v s => some (v, s)) =
    impl_clone_intK x.1 (fun r => some (out_impl_clone_int r)) := by kernel_rfl
theorem sem_impl_clone_int : ∀ x y, (fun x => impl_clone_int x.1) x = some y → SemCall Try.prog 106 (encAr [.one (.dat (.sl I))] [] x).1 (encAr [.one (.dat (.sl I))] [] x).2 (out_impl_clone_int y).1 (out_impl_clone_int y).2 :=
  sem_of folP okP tabP (Oracle.of_ok (Oracle.cons_ok ok_slices_Clip_int (Oracle.cons_ok ok_slices_Clone_int Oracle.nil_ok))) lf_impl_clone_int fun x => (w_impl_clone_int x).trans (impl_clone_int_eq x.1 _)
noncomputable def c_impl_clone_int : Con := Con.shape [.one (.dat (.sl I))] [] (fun x => impl_clone_int x.1) out_impl_clone_int
theorem ok_impl_clone_int : ConOk Try.prog 106 c_impl_clone_int := Con.shape_ok sem_impl_clone_int

/-! 56 -/
def C_impl_Kernel_copyOf : Cfg := { T := tab, hint := fun _ => { mu := [1, 2, 5, 8], keepR := [1, 2], res := [2], order := [(1, [(0, .read), (1, .read), (3, .read), (4, .read), (2, .forced), (6, .read), (5, .forced), (7, .forced), (8, .forced), (9, .forced)])] }, mode := fun _ => .borrow }
noncomputable def O_impl_Kernel_copyOf : Oracle := Oracle.of [(80, c_impl_clone_Entry), (106, c_impl_clone_int)]
noncomputable def L_impl_Kernel_copyOf : Loops := Loops.of []
theorem lf_impl_Kernel_copyOf : LoopsFn Try.prog C_impl_Kernel_copyOf O_impl_Kernel_copyOf 56 L_impl_Kernel_copyOf := LoopsFn.nil' (by kernel_rfl)
def out_impl_Kernel_copyOf (r : Int × Int × Int × Int × (List DEntry) × (List Int)) : AV × Store := out1 (.agg [.dat I, .dat I, .dat I, .all 0, .all 1, .dat I]) [.data tEntry, .data I] (r.1, r.2.1, r.2.2.1, r.2.2.2.1, r.2.2.2.2.1, r.2.2.2.2.2, ())
theorem w_impl_Kernel_copyOf (x : FAr [.one (.dat tKernel)] []) : evBodyK Try.prog C_impl_Kernel_copyOf O_impl_Kernel_copyOf L_impl_Kernel_copyOf 56 (encAr [.one (.dat tKernel)] [] x).1 (encAr [.one (.dat tKernel)] [] x).2 (fun v s => some (v, s)) =
    impl_Kernel_copyOfK x.1 (fun r => some (out_impl_Kernel_copyOf r)) := by kernel_rfl
theorem sem_impl_Kernel_copyOf : ∀ x y, (fun x => impl_Kernel_copyOf x.1) x = some y → SemCall Try.prog 56 (encAr [.one (.dat tKernel)] [] x).1 (encAr [.one (.dat tKernel)] [] x).2 (out_impl_Kernel_copyOf y).1 (out_impl_Kernel_copyOf y).2 :=
  sem_of folP okP tabP (Oracle.of_ok (Oracle.cons_ok ok_impl_clone_Entry (Oracle.cons_ok ok_impl_clone_int Oracle.nil_ok))) lf_impl_Kernel_copyOf fun x => (w_impl_Kernel_copyOf x).trans (impl_Kernel_copyOf_eq x.1 _)
noncomputable def c_impl_Kernel_copyOf : Con := Con.shape [.one (.dat tKernel)] [] (fun x => impl_Kernel_copyOf x.1) out_impl_Kernel_copyOf
theorem ok_impl_Kernel_copyOf : ConOk Try.prog 56 c_impl_Kernel_copyOf := Con.shape_ok sem_impl_Kernel_copyOf

/-! 57 -/
def C_impl_Kernel_has : Cfg := { T := tab, hint := fun _ => { keepR := [1, 2, 4], res := [4] }, mode := fun _ => .borrow }
noncomputable def O_impl_Kernel_has : Oracle := Oracle.of [(73, c_impl_in)]
noncomputable def L_impl_Kernel_has : Loops := Loops.of []
theorem lf_impl_Kernel_has : LoopsFn Try.prog C_impl_Kernel_has O_impl_Kernel_has 57 L_impl_Kernel_has := LoopsFn.nil' (by kernel_rfl)
def out_impl_Kernel_has (r : Bool) : AV × Store := out1 (.one (.dat .bool)) [] (r, ())
theorem w_impl_Kernel_has (x : FAr [.one (.dat tKernel), .one (.dat I)] []) : evBodyK Try.prog C_impl_Kernel_has O_impl_Kernel_has L_impl_Kernel_has 57 (encAr [.one (.dat tKernel), .one (.dat I)] [] x).1 (encAr [.one (.dat tKernel), .one (.dat I)] [] x).2 (fun v s => some (v, s)) =
    impl_Kernel_hasK x.1 x.2.1 (fun r => some (out_impl_Kernel_has r)) := by kernel_rfl
theorem sem_impl_Kernel_has : ∀ x y, (fun x => impl_Kernel_has x.1 x.2.1) x = some y → SemCall Try.prog 57 (encAr [.one (.dat tKernel), .one (.dat I)] [] x).1 (encAr [.one (.dat tKernel), .one (.dat I)] [] x).2 (out_impl_Kernel_has y).1 (out_impl_Kernel_has y).2 :=
  sem_of folP okP tabP (Oracle.of_ok (Oracle.cons_ok ok_impl_in Oracle.nil_ok)) lf_impl_Kernel_has fun x => (w_impl_Kernel_has x).trans (impl_Kernel_has_eq x.1 x.2.1 _)
noncomputable def c_impl_Kernel_has : Con := Con.shape [.one (.dat tKernel), .one (.dat I)] [] (fun x => impl_Kernel_has x.1 x.2.1) out_impl_Kernel_has
theorem ok_impl_Kernel_has : ConOk Try.prog 57 c_impl_Kernel_has := Con.shape_ok sem_impl_Kernel_has

/-! 58 -/
def C_impl_Kernel_empty : Cfg := { T := tab, hint := fun _ => { keepR := [1, 2, 4], res := [4] }, mode := fun _ => .borrow }
noncomputable def O_impl_Kernel_empty : Oracle := Oracle.of [(73, c_impl_in)]
noncomputable def L_impl_Kernel_empty : Loops := Loops.of []
theorem lf_impl_Kernel_empty : LoopsFn Try.prog C_impl_Kernel_empty O_impl_Kernel_empty 58 L_impl_Kernel_empty := LoopsFn.nil' (by kernel_rfl)
def out_impl_Kernel_empty (r : Bool) : AV × Store := out1 (.one (.dat .bool)) [] (r, ())
theorem w_impl_Kernel_empty (x : FAr [.one (.dat tKernel), .one (.dat I)] []) : evBodyK Try.prog C_impl_Kernel_empty O_impl_Kernel_empty L_impl_Kernel_empty 58 (encAr [.one (.dat tKernel), .one (.dat I)] [] x).1 (encAr [.one (.dat tKernel), .one (.dat I)] [] x).2 (fun v s => some (v, s)) =
    impl_Kernel_emptyK x.1 x.2.1 (fun r => some (out_impl_Kernel_empty r)) := by kernel_rfl
theorem sem_impl_Kernel_empty : ∀ x y, (fun x => impl_Kernel_empty x.1 x.2.1) x = some y → SemCall Try.prog 58 (encAr [.one (.dat tKernel), .one (.dat I)] [] x).1 (encAr [.one (.dat tKernel), .one (.dat I)] [] x).2 (out_impl_Kernel_empty y).1 (out_impl_Kernel_empty y).2 :=
  sem_of folP okP tabP (Oracle.of_ok (Oracle.cons_ok ok_impl_in Oracle.nil_ok)) lf_impl_Kernel_empty fun x => (w_impl_Kernel_empty x).trans (impl_Kernel_empty_eq x.1 x.2.1 _)
noncomputable def c_impl_Kernel_empty : Con := Con.shape [.one (.dat tKernel), .one (.dat I)] [] (fun x => impl_Kernel_empty x.1 x.2.1) out_impl_Kernel_empty
theorem ok_impl_Kernel_empty : ConOk Try.prog 58 c_impl_Kernel_empty := Con.shape_ok sem_impl_Kernel_empty

/-! 103 -/
def C_impl_alive : Cfg := { T := tab, hint := fun _ => { keepR := [0, 1, 4], res := [4] }, mode := fun _ => .borrow }
noncomputable def O_impl_alive : Oracle := Oracle.of [(70, c_impl_DerivationValid), (73, c_impl_in)]
noncomputable def L_impl_alive : Loops := Loops.of []
theorem lf_impl_alive : LoopsFn Try.prog C_impl_alive O_impl_alive 103 L_impl_alive := LoopsFn.nil' (by kernel_rfl)
def out_impl_alive (r : Bool) : AV × Store := out1 (.one (.dat .bool)) [] (r, ())
theorem w_impl_alive (x : FAr [.one (.dat (.sl tEntry)), .one (.dat I)] []) : evBodyK Try.prog C_impl_alive O_impl_alive L_impl_alive 103 (encAr [.one (.dat (.sl tEntry)), .one (.dat I)] [] x).1 (encAr [.one (.dat (.sl tEntry)), .one (.dat I)] [] x).2 (fun v s => some (v, s)) =
    impl_aliveK x.1 x.2.1 (fun r => some (out_impl_alive r)) := by kernel_rfl
theorem sem_impl_alive : ∀ x y, (fun x => impl_alive x.1 x.2.1) x = some y → SemCall Try.prog 103 (encAr [.one (.dat (.sl tEntry)), .one (.dat I)] [] x).1 (encAr [.one (.dat (.sl tEntry)), .one (.dat I)] [] x).2 (out_impl_alive y).1 (out_impl_alive y).2 :=
  sem_of folP okP tabP (Oracle.of_ok (Oracle.cons_ok ok_impl_DerivationValid (Oracle.cons_ok ok_impl_in Oracle.nil_ok))) lf_impl_alive fun x => (w_impl_alive x).trans (impl_alive_eq x.1 x.2.1 _)
noncomputable def c_impl_alive : Con := Con.shape [.one (.dat (.sl tEntry)), .one (.dat I)] [] (fun x => impl_alive x.1 x.2.1) out_impl_alive
theorem ok_impl_alive : ConOk Try.prog 103 c_impl_alive := Con.shape_ok sem_impl_alive

/-! 107 -/
def C_impl_MintCap : Cfg := { T := tab, hint := fun _ => { mu := [3, 6], keepR := [1, 2, 3, 6, 7, 50, 58], res := [6, 7] }, mode := fun _ => .borrow }
noncomputable def O_impl_MintCap : Oracle := Oracle.of [(73, c_impl_in), (77, c_impl_CapValid), (112, c_impl_RightsValid), (118, c_impl_badged)]
noncomputable def L_impl_MintCap : Loops := Loops.of []
theorem lf_impl_MintCap : LoopsFn Try.prog C_impl_MintCap O_impl_MintCap 107 L_impl_MintCap := LoopsFn.nil' (by kernel_rfl)
def out_impl_MintCap (r : DCap × Bool) : AV × Store := outT [.one (.dat tCap), .one (.dat .bool)] [] (r.1, r.2, ())
theorem w_impl_MintCap (x : FAr [.one (.dat tCap), .one (.dat I), .one (.dat I)] []) : evBodyK Try.prog C_impl_MintCap O_impl_MintCap L_impl_MintCap 107 (encAr [.one (.dat tCap), .one (.dat I), .one (.dat I)] [] x).1 (encAr [.one (.dat tCap), .one (.dat I), .one (.dat I)] [] x).2 (fun v s => some (v, s)) =
    impl_MintCapK x.1 x.2.1 x.2.2.1 (fun r => some (out_impl_MintCap r)) := by kernel_rfl
theorem sem_impl_MintCap : ∀ x y, (fun x => impl_MintCap x.1 x.2.1 x.2.2.1) x = some y → SemCall Try.prog 107 (encAr [.one (.dat tCap), .one (.dat I), .one (.dat I)] [] x).1 (encAr [.one (.dat tCap), .one (.dat I), .one (.dat I)] [] x).2 (out_impl_MintCap y).1 (out_impl_MintCap y).2 :=
  sem_of folP okP tabP (Oracle.of_ok (Oracle.cons_ok ok_impl_in (Oracle.cons_ok ok_impl_CapValid (Oracle.cons_ok ok_impl_RightsValid (Oracle.cons_ok ok_impl_badged Oracle.nil_ok))))) lf_impl_MintCap fun x => (w_impl_MintCap x).trans (impl_MintCap_eq x.1 x.2.1 x.2.2.1 _)
noncomputable def c_impl_MintCap : Con := Con.shape [.one (.dat tCap), .one (.dat I), .one (.dat I)] [] (fun x => impl_MintCap x.1 x.2.1 x.2.2.1) out_impl_MintCap
theorem ok_impl_MintCap : ConOk Try.prog 107 c_impl_MintCap := Con.shape_ok sem_impl_MintCap

/-! 59 -/
def C_impl_DeriveCap : Cfg := { T := tab, hint := fun _ => { mu := [8, 11, 36, 38, 44], keepR := [0, 1, 2, 3, 8, 9, 10, 11, 12, 16, 34], res := [8, 9, 10], order := [(6, [(0, .read), (2, .read), (3, .read), (4, .read), (5, .read), (8, .pure), (9, .pure), (1, .forced), (6, .forced), (7, .forced), (10, .forced), (11, .forced), (12, .forced)])] }, mode := fun _ => .borrow }
noncomputable def O_impl_DeriveCap : Oracle := Oracle.of [(80, c_impl_clone_Entry), (103, c_impl_alive), (107, c_impl_MintCap)]
noncomputable def L_impl_DeriveCap : Loops := Loops.of []
theorem lf_impl_DeriveCap : LoopsFn Try.prog C_impl_DeriveCap O_impl_DeriveCap 59 L_impl_DeriveCap := LoopsFn.nil' (by kernel_rfl)
def out_impl_DeriveCap (r : Int × Bool × (List DEntry)) : AV × Store := outT [.one (.all 0), .one (.dat I), .one (.dat .bool)] [.data tEntry] (r.1, r.2.1, r.2.2, ())
theorem w_impl_DeriveCap (x : FAr [.one (.dat (.sl tEntry)), .one (.dat I), .one (.dat I), .one (.dat I)] []) : evBodyK Try.prog C_impl_DeriveCap O_impl_DeriveCap L_impl_DeriveCap 59 (encAr [.one (.dat (.sl tEntry)), .one (.dat I), .one (.dat I), .one (.dat I)] [] x).1 (encAr [.one (.dat (.sl tEntry)), .one (.dat I), .one (.dat I), .one (.dat I)] [] x).2 (fun v s => some (v, s)) =
    impl_DeriveCapK x.1 x.2.1 x.2.2.1 x.2.2.2.1 (fun r => some (out_impl_DeriveCap r)) := by kernel_rfl
theorem sem_impl_DeriveCap : ∀ x y, (fun x => impl_DeriveCap x.1 x.2.1 x.2.2.1 x.2.2.2.1) x = some y → SemCall Try.prog 59 (encAr [.one (.dat (.sl tEntry)), .one (.dat I), .one (.dat I), .one (.dat I)] [] x).1 (encAr [.one (.dat (.sl tEntry)), .one (.dat I), .one (.dat I), .one (.dat I)] [] x).2 (out_impl_DeriveCap y).1 (out_impl_DeriveCap y).2 :=
  sem_of folP okP tabP (Oracle.of_ok (Oracle.cons_ok ok_impl_clone_Entry (Oracle.cons_ok ok_impl_alive (Oracle.cons_ok ok_impl_MintCap Oracle.nil_ok)))) lf_impl_DeriveCap fun x => (w_impl_DeriveCap x).trans (impl_DeriveCap_eq x.1 x.2.1 x.2.2.1 x.2.2.2.1 _)
noncomputable def c_impl_DeriveCap : Con := Con.shape [.one (.dat (.sl tEntry)), .one (.dat I), .one (.dat I), .one (.dat I)] [] (fun x => impl_DeriveCap x.1 x.2.1 x.2.2.1 x.2.2.2.1) out_impl_DeriveCap
theorem ok_impl_DeriveCap : ConOk Try.prog 59 c_impl_DeriveCap := Con.shape_ok sem_impl_DeriveCap

/-! 20 -/
def C_impl_SysMint : Cfg := { T := tab, hint := fun _ => { mu := [10, 12, 21, 50], keepR := [1, 2, 3, 4, 5, 10, 11, 12, 13, 14, 15, 18, 22, 34, 55], res := [10, 11], order := [(8, [(0, .read), (1, .read), (2, .read), (3, .read), (4, .read), (5, .read), (6, .read), (7, .read), (8, .forced), (9, .forced), (10, .forced), (11, .read), (12, .read), (13, .read), (14, .forced), (15, .forced), (16, .forced)])], keepX := [(0, [1, 2, 3, 4, 5, 10, 12])], fillR := true }, mode := fun _ => .borrow }
noncomputable def O_impl_SysMint : Oracle := Oracle.of [(26, c_impl_KernelValid), (56, c_impl_Kernel_copyOf), (57, c_impl_Kernel_has), (58, c_impl_Kernel_empty), (59, c_impl_DeriveCap)]
noncomputable def L_impl_SysMint : Loops := Loops.of []
theorem lf_impl_SysMint : LoopsFn Try.prog C_impl_SysMint O_impl_SysMint 20 L_impl_SysMint := LoopsFn.nil' (by kernel_rfl)
def out_impl_SysMint (r : Int × Int × Int × Int × Int × (List DEntry) × (List Int)) : AV × Store := outT [.agg [.dat I, .dat I, .dat I, .all 0, .all 1, .dat I], .one (.dat I)] [.data tEntry, .data I] (r.1, r.2.1, r.2.2.1, r.2.2.2.1, r.2.2.2.2.1, r.2.2.2.2.2.1, r.2.2.2.2.2.2, ())
theorem w_impl_SysMint (x : FAr [.one (.dat tKernel), .one (.dat I), .one (.dat I), .one (.dat I), .one (.dat I)] []) : evBodyK Try.prog C_impl_SysMint O_impl_SysMint L_impl_SysMint 20 (encAr [.one (.dat tKernel), .one (.dat I), .one (.dat I), .one (.dat I), .one (.dat I)] [] x).1 (encAr [.one (.dat tKernel), .one (.dat I), .one (.dat I), .one (.dat I), .one (.dat I)] [] x).2 (fun v s => some (v, s)) =
    impl_SysMintK x.1 x.2.1 x.2.2.1 x.2.2.2.1 x.2.2.2.2.1 (fun r => some (out_impl_SysMint r)) := by kernel_rfl
theorem sem_impl_SysMint : ∀ x y, (fun x => impl_SysMint x.1 x.2.1 x.2.2.1 x.2.2.2.1 x.2.2.2.2.1) x = some y → SemCall Try.prog 20 (encAr [.one (.dat tKernel), .one (.dat I), .one (.dat I), .one (.dat I), .one (.dat I)] [] x).1 (encAr [.one (.dat tKernel), .one (.dat I), .one (.dat I), .one (.dat I), .one (.dat I)] [] x).2 (out_impl_SysMint y).1 (out_impl_SysMint y).2 :=
  sem_of folP okP tabP (Oracle.of_ok (Oracle.cons_ok ok_impl_KernelValid (Oracle.cons_ok ok_impl_Kernel_copyOf (Oracle.cons_ok ok_impl_Kernel_has (Oracle.cons_ok ok_impl_Kernel_empty (Oracle.cons_ok ok_impl_DeriveCap Oracle.nil_ok)))))) lf_impl_SysMint fun x => (w_impl_SysMint x).trans (impl_SysMint_eq x.1 x.2.1 x.2.2.1 x.2.2.2.1 x.2.2.2.2.1 _)
noncomputable def c_impl_SysMint : Con := Con.shape [.one (.dat tKernel), .one (.dat I), .one (.dat I), .one (.dat I), .one (.dat I)] [] (fun x => impl_SysMint x.1 x.2.1 x.2.2.1 x.2.2.2.1 x.2.2.2.2.1) out_impl_SysMint
theorem ok_impl_SysMint : ConOk Try.prog 20 c_impl_SysMint := Con.shape_ok sem_impl_SysMint

/-! 31 -/
def C_laws_sameTree : Cfg := { T := tab, hint := fun _ => { keepR := [0, 1, 4, 5, 10, 14, 25], res := [4], order := [(6, [(0, .read), (1, .read), (2, .read), (3, .read), (4, .read), (5, .forced), (6, .forced), (7, .forced), (8, .forced)])], keepL := [(0, [0, 1, 5])], keepX := [(0, []), (1, [0, 1, 5])] }, mode := fun _ => .borrow }
noncomputable def O_laws_sameTree : Oracle := Oracle.of []
def sh_laws_sameTree_l0 : List (Nat × S2) := [(0, .one (.dat (.sl tEntry))), (1, .one (.dat (.sl tEntry))), (5, .one (.dat I))]
def bs_laws_sameTree_l0 : List SB := []
noncomputable def lc_laws_sameTree_l0 : LCon := LCon.shape sh_laws_sameTree_l0 bs_laws_sameTree_l0 laws_sameTree_l0 (fun a => (.exit 0, encSt [] [] a)) (fun b => encSt [(4, .one (.dat .bool))] [] b)
noncomputable def L_laws_sameTree : Loops := Loops.of [(0, lc_laws_sameTree_l0)]
theorem r_laws_sameTree_l0 (x : FSt sh_laws_sameTree_l0 bs_laws_sameTree_l0) : roundK C_laws_sameTree.T (C_laws_sameTree.hint 31) C_laws_sameTree.mode O_laws_sameTree L_laws_sameTree 0 (lp Try.prog 31 0) (encSt sh_laws_sameTree_l0 bs_laws_sameTree_l0 x) (fun e s => some (e, s)) =
    laws_sameTree_l0K x.1 x.2.1 x.2.2.1 (fun y => some (Ex.normal, encSt sh_laws_sameTree_l0 bs_laws_sameTree_l0 y)) (fun a => some (Ex.exit 0, encSt [] [] a)) (fun b => some (Ex.ret, encSt [(4, .one (.dat .bool))] [] b)) := by kernel_rfl
theorem lo_laws_sameTree_l0 : LConOk C_laws_sameTree.T (C_laws_sameTree.hint 31) C_laws_sameTree.mode O_laws_sameTree L_laws_sameTree 0 (lp Try.prog 31 0) lc_laws_sameTree_l0 :=
  LCon.shape_ok (fun a => by simp) fun x => (r_laws_sameTree_l0 x).trans (laws_sameTree_l0_eq x.1 x.2.1 x.2.2.1 _ _ _)
theorem lf_laws_sameTree : LoopsFn Try.prog C_laws_sameTree O_laws_sameTree 31 L_laws_sameTree := LoopsFn.all (by kernel_rfl) (by decide) ⟨lo_laws_sameTree_l0, trivial⟩
def out_laws_sameTree (r : Bool) : AV × Store := out1 (.one (.dat .bool)) [] (r, ())
theorem w_laws_sameTree (x : FAr [.one (.dat (.sl tEntry)), .one (.dat (.sl tEntry))] []) : evBodyK Try.prog C_laws_sameTree O_laws_sameTree L_laws_sameTree 31 (encAr [.one (.dat (.sl tEntry)), .one (.dat (.sl tEntry))] [] x).1 (encAr [.one (.dat (.sl tEntry)), .one (.dat (.sl tEntry))] [] x).2 (fun v s => some (v, s)) =
    laws_sameTreeK x.1 x.2.1 (fun r => some (out_laws_sameTree r)) := by kernel_rfl
theorem sem_laws_sameTree : ∀ x y, (fun x => laws_sameTree x.1 x.2.1) x = some y → SemCall Try.prog 31 (encAr [.one (.dat (.sl tEntry)), .one (.dat (.sl tEntry))] [] x).1 (encAr [.one (.dat (.sl tEntry)), .one (.dat (.sl tEntry))] [] x).2 (out_laws_sameTree y).1 (out_laws_sameTree y).2 :=
  sem_of folP okP tabP (Oracle.of_ok Oracle.nil_ok) lf_laws_sameTree fun x => (w_laws_sameTree x).trans (laws_sameTree_eq x.1 x.2.1 _)
noncomputable def c_laws_sameTree : Con := Con.shape [.one (.dat (.sl tEntry)), .one (.dat (.sl tEntry))] [] (fun x => laws_sameTree x.1 x.2.1) out_laws_sameTree
theorem ok_laws_sameTree : ConOk Try.prog 31 c_laws_sameTree := Con.shape_ok sem_laws_sameTree

/-! 63 -/
def C_laws_sameInts : Cfg := { T := tab, hint := fun _ => { keepR := [0, 1, 4, 5, 10, 14, 25], res := [4], order := [(6, [(0, .read), (1, .read), (2, .read), (3, .read), (4, .read), (5, .forced), (6, .forced), (7, .forced), (8, .forced)])], keepL := [(0, [0, 1, 5])], keepX := [(0, []), (1, [0, 1, 5])] }, mode := fun _ => .borrow }
noncomputable def O_laws_sameInts : Oracle := Oracle.of []
def sh_laws_sameInts_l0 : List (Nat × S2) := [(0, .one (.dat (.sl I))), (1, .one (.dat (.sl I))), (5, .one (.dat I))]
def bs_laws_sameInts_l0 : List SB := []
noncomputable def lc_laws_sameInts_l0 : LCon := LCon.shape sh_laws_sameInts_l0 bs_laws_sameInts_l0 laws_sameInts_l0 (fun a => (.exit 0, encSt [] [] a)) (fun b => encSt [(4, .one (.dat .bool))] [] b)
noncomputable def L_laws_sameInts : Loops := Loops.of [(0, lc_laws_sameInts_l0)]
theorem r_laws_sameInts_l0 (x : FSt sh_laws_sameInts_l0 bs_laws_sameInts_l0) : roundK C_laws_sameInts.T (C_laws_sameInts.hint 63) C_laws_sameInts.mode O_laws_sameInts L_laws_sameInts 0 (lp Try.prog 63 0) (encSt sh_laws_sameInts_l0 bs_laws_sameInts_l0 x) (fun e s => some (e, s)) =
    laws_sameInts_l0K x.1 x.2.1 x.2.2.1 (fun y => some (Ex.normal, encSt sh_laws_sameInts_l0 bs_laws_sameInts_l0 y)) (fun a => some (Ex.exit 0, encSt [] [] a)) (fun b => some (Ex.ret, encSt [(4, .one (.dat .bool))] [] b)) := by kernel_rfl
theorem lo_laws_sameInts_l0 : LConOk C_laws_sameInts.T (C_laws_sameInts.hint 63) C_laws_sameInts.mode O_laws_sameInts L_laws_sameInts 0 (lp Try.prog 63 0) lc_laws_sameInts_l0 :=
  LCon.shape_ok (fun a => by simp) fun x => (r_laws_sameInts_l0 x).trans (laws_sameInts_l0_eq x.1 x.2.1 x.2.2.1 _ _ _)
theorem lf_laws_sameInts : LoopsFn Try.prog C_laws_sameInts O_laws_sameInts 63 L_laws_sameInts := LoopsFn.all (by kernel_rfl) (by decide) ⟨lo_laws_sameInts_l0, trivial⟩
def out_laws_sameInts (r : Bool) : AV × Store := out1 (.one (.dat .bool)) [] (r, ())
theorem w_laws_sameInts (x : FAr [.one (.dat (.sl I)), .one (.dat (.sl I))] []) : evBodyK Try.prog C_laws_sameInts O_laws_sameInts L_laws_sameInts 63 (encAr [.one (.dat (.sl I)), .one (.dat (.sl I))] [] x).1 (encAr [.one (.dat (.sl I)), .one (.dat (.sl I))] [] x).2 (fun v s => some (v, s)) =
    laws_sameIntsK x.1 x.2.1 (fun r => some (out_laws_sameInts r)) := by kernel_rfl
theorem sem_laws_sameInts : ∀ x y, (fun x => laws_sameInts x.1 x.2.1) x = some y → SemCall Try.prog 63 (encAr [.one (.dat (.sl I)), .one (.dat (.sl I))] [] x).1 (encAr [.one (.dat (.sl I)), .one (.dat (.sl I))] [] x).2 (out_laws_sameInts y).1 (out_laws_sameInts y).2 :=
  sem_of folP okP tabP (Oracle.of_ok Oracle.nil_ok) lf_laws_sameInts fun x => (w_laws_sameInts x).trans (laws_sameInts_eq x.1 x.2.1 _)
noncomputable def c_laws_sameInts : Con := Con.shape [.one (.dat (.sl I)), .one (.dat (.sl I))] [] (fun x => laws_sameInts x.1 x.2.1) out_laws_sameInts
theorem ok_laws_sameInts : ConOk Try.prog 63 c_laws_sameInts := Con.shape_ok sem_laws_sameInts

/-! 22 -/
def C_laws_sameKernel : Cfg := { T := tab, hint := fun _ => { keepR := [2, 3, 4], res := [4] }, mode := fun _ => .borrow }
noncomputable def O_laws_sameKernel : Oracle := Oracle.of [(31, c_laws_sameTree), (63, c_laws_sameInts)]
noncomputable def L_laws_sameKernel : Loops := Loops.of []
theorem lf_laws_sameKernel : LoopsFn Try.prog C_laws_sameKernel O_laws_sameKernel 22 L_laws_sameKernel := LoopsFn.nil' (by kernel_rfl)
def out_laws_sameKernel (r : Bool) : AV × Store := out1 (.one (.dat .bool)) [] (r, ())
theorem w_laws_sameKernel (x : FAr [.one (.dat tKernel), .one (.dat tKernel)] []) : evBodyK Try.prog C_laws_sameKernel O_laws_sameKernel L_laws_sameKernel 22 (encAr [.one (.dat tKernel), .one (.dat tKernel)] [] x).1 (encAr [.one (.dat tKernel), .one (.dat tKernel)] [] x).2 (fun v s => some (v, s)) =
    laws_sameKernelK x.1 x.2.1 (fun r => some (out_laws_sameKernel r)) := by kernel_rfl
theorem sem_laws_sameKernel : ∀ x y, (fun x => laws_sameKernel x.1 x.2.1) x = some y → SemCall Try.prog 22 (encAr [.one (.dat tKernel), .one (.dat tKernel)] [] x).1 (encAr [.one (.dat tKernel), .one (.dat tKernel)] [] x).2 (out_laws_sameKernel y).1 (out_laws_sameKernel y).2 :=
  sem_of folP okP tabP (Oracle.of_ok (Oracle.cons_ok ok_laws_sameTree (Oracle.cons_ok ok_laws_sameInts Oracle.nil_ok))) lf_laws_sameKernel fun x => (w_laws_sameKernel x).trans (laws_sameKernel_eq x.1 x.2.1 _)
noncomputable def c_laws_sameKernel : Con := Con.shape [.one (.dat tKernel), .one (.dat tKernel)] [] (fun x => laws_sameKernel x.1 x.2.1) out_laws_sameKernel
theorem ok_laws_sameKernel : ConOk Try.prog 22 c_laws_sameKernel := Con.shape_ok sem_laws_sameKernel

/-! 24 -/
def out_laws_alive (r : Bool) : AV × Store := out1 (.one (.dat .bool)) [] (r, ())
theorem sem_laws_alive : ∀ x y, (fun x => laws_alive) x = some y → SemCall Try.prog 24 (encAr [] [] x).1 (encAr [] [] x).2 (out_laws_alive y).1 (out_laws_alive y).2 := fun x y h => by
  have e : y = true := (Option.some.inj h).symm
  subst e
  exact sem_of_below ⟨_, _, Try.func24, rfl, by kernel_rfl⟩ Try.aliveCalls
noncomputable def c_laws_alive : Con := Con.shape [] [] (fun x => laws_alive) out_laws_alive
theorem ok_laws_alive : ConOk Try.prog 24 c_laws_alive := Con.shape_ok sem_laws_alive

/-! 25 -/
def C_impl_StrongestLeft : Cfg := { T := tab, hint := fun _ => { mu := [9], keepR := [0, 1, 2, 6, 7, 9, 12, 13, 14, 15, 16, 35], res := [6], keepL := [(0, [1, 2, 7, 13, 14, 15])], keepX := [(0, [7]), (1, [1, 2, 7, 13, 14, 15])] }, mode := fun _ => .borrow }
noncomputable def O_impl_StrongestLeft : Oracle := Oracle.of [(70, c_impl_DerivationValid)]
def sh_impl_StrongestLeft_l0 : List (Nat × S2) := [(1, .one (.dat I)), (2, .one (.dat I)), (7, .one (.dat I)), (13, .one (.dat (.sl tEntry))), (14, .one (.dat I)), (15, .one (.dat I))]
def bs_impl_StrongestLeft_l0 : List SB := []
noncomputable def lc_impl_StrongestLeft_l0 : LCon := LCon.shape1 sh_impl_StrongestLeft_l0 bs_impl_StrongestLeft_l0 impl_StrongestLeft_l0 (fun a => (.exit 0, encSt [(7, .one (.dat I))] [] a))
noncomputable def L_impl_StrongestLeft : Loops := Loops.of [(0, lc_impl_StrongestLeft_l0)]
theorem r_impl_StrongestLeft_l0 (x : FSt sh_impl_StrongestLeft_l0 bs_impl_StrongestLeft_l0) : roundK C_impl_StrongestLeft.T (C_impl_StrongestLeft.hint 25) C_impl_StrongestLeft.mode O_impl_StrongestLeft L_impl_StrongestLeft 0 (lp Try.prog 25 0) (encSt sh_impl_StrongestLeft_l0 bs_impl_StrongestLeft_l0 x) (fun e s => some (e, s)) =
    impl_StrongestLeft_l0K x.1 x.2.1 x.2.2.1 x.2.2.2.1 x.2.2.2.2.1 x.2.2.2.2.2.1 (fun y => some (Ex.normal, encSt sh_impl_StrongestLeft_l0 bs_impl_StrongestLeft_l0 y)) (fun a => some (Ex.exit 0, encSt [(7, .one (.dat I))] [] a)) := by kernel_rfl
theorem lo_impl_StrongestLeft_l0 : LConOk C_impl_StrongestLeft.T (C_impl_StrongestLeft.hint 25) C_impl_StrongestLeft.mode O_impl_StrongestLeft L_impl_StrongestLeft 0 (lp Try.prog 25 0) lc_impl_StrongestLeft_l0 :=
  LCon.shape1_ok (fun a => by simp) fun x => (r_impl_StrongestLeft_l0 x).trans (impl_StrongestLeft_l0_eq x.1 x.2.1 x.2.2.1 x.2.2.2.1 x.2.2.2.2.1 x.2.2.2.2.2.1 _ _)
theorem lf_impl_StrongestLeft : LoopsFn Try.prog C_impl_StrongestLeft O_impl_StrongestLeft 25 L_impl_StrongestLeft := LoopsFn.all (by kernel_rfl) (by decide) ⟨lo_impl_StrongestLeft_l0, trivial⟩
def out_impl_StrongestLeft (r : Int) : AV × Store := out1 (.one (.dat I)) [] (r, ())
theorem w_impl_StrongestLeft (x : FAr [.one (.dat (.sl tEntry)), .one (.dat I), .one (.dat I)] []) : evBodyK Try.prog C_impl_StrongestLeft O_impl_StrongestLeft L_impl_StrongestLeft 25 (encAr [.one (.dat (.sl tEntry)), .one (.dat I), .one (.dat I)] [] x).1 (encAr [.one (.dat (.sl tEntry)), .one (.dat I), .one (.dat I)] [] x).2 (fun v s => some (v, s)) =
    impl_StrongestLeftK x.1 x.2.1 x.2.2.1 (fun r => some (out_impl_StrongestLeft r)) := by kernel_rfl
theorem sem_impl_StrongestLeft : ∀ x y, (fun x => impl_StrongestLeft x.1 x.2.1 x.2.2.1) x = some y → SemCall Try.prog 25 (encAr [.one (.dat (.sl tEntry)), .one (.dat I), .one (.dat I)] [] x).1 (encAr [.one (.dat (.sl tEntry)), .one (.dat I), .one (.dat I)] [] x).2 (out_impl_StrongestLeft y).1 (out_impl_StrongestLeft y).2 :=
  sem_of folP okP tabP (Oracle.of_ok (Oracle.cons_ok ok_impl_DerivationValid Oracle.nil_ok)) lf_impl_StrongestLeft fun x => (w_impl_StrongestLeft x).trans (impl_StrongestLeft_eq x.1 x.2.1 x.2.2.1 _)
noncomputable def c_impl_StrongestLeft : Con := Con.shape [.one (.dat (.sl tEntry)), .one (.dat I), .one (.dat I)] [] (fun x => impl_StrongestLeft x.1 x.2.1 x.2.2.1) out_impl_StrongestLeft
theorem ok_impl_StrongestLeft : ConOk Try.prog 25 c_impl_StrongestLeft := Con.shape_ok sem_impl_StrongestLeft

/-! 3 -/
def C_laws_FnSysMint : Cfg := { T := tab, hint := fun _ => { mu := [3, 8, 10, 14], keepR := [0, 2, 3, 4, 5, 6, 7, 8, 9, 10, 11, 12, 13, 14, 17, 52, 54, 71, 94], res := [2], order := [(15, [(0, .read), (1, .read), (2, .read), (3, .read), (4, .read), (5, .read), (6, .read), (7, .read), (8, .read), (9, .read), (10, .read), (11, .forced), (12, .forced), (13, .forced), (14, .forced)]), (17, [(0, .forced), (1, .forced), (2, .forced), (3, .read), (4, .read), (5, .read), (6, .read), (7, .read), (8, .forced), (9, .forced), (10, .forced), (11, .forced), (12, .read), (13, .read), (14, .read), (15, .read), (16, .read), (17, .read), (18, .read), (19, .forced), (20, .forced), (21, .forced), (22, .forced), (23, .forced), (24, .forced), (25, .read), (26, .read), (27, .read), (28, .read), (29, .read), (30, .read), (31, .read), (32, .read), (33, .read), (34, .read), (35, .forced), (36, .forced), (37, .forced), (38, .forced), (39, .forced), (40, .forced), (41, .forced), (42, .forced), (43, .forced)])], keepL := [(0, [3, 4, 5, 8, 12, 13])], keepX := [(0, [3, 4, 5, 8, 12]), (1, [3, 4, 5, 8, 12, 13])] }, mode := fun _ => .borrow }
noncomputable def O_laws_FnSysMint : Oracle := Oracle.of [(19, c_spec_DrawSysMint), (20, c_impl_SysMint), (21, c_spec_SysMint), (22, c_laws_sameKernel), (23, c_spec_KernelValid), (24, c_laws_alive), (25, c_impl_StrongestLeft), (26, c_impl_KernelValid), (27, c_impl_CapWithin)]
def sh_laws_FnSysMint_l0 : List (Nat × S2) := [(3, .one (.ptr 0 0 0)), (4, .one (.dat I)), (5, .one (.dat I)), (8, .one (.ptr 1 0 0)), (12, .one (.dat I)), (13, .one (.dat I))]
def bs_laws_FnSysMint_l0 : List SB := [.var [.dat I, .dat I, .dat I, .dat (.sl tEntry), .dat (.sl I), .dat I], .var [.dat I, .dat I, .dat I, .dat (.sl tEntry), .dat (.sl I), .dat I]]
noncomputable def lc_laws_FnSysMint_l0 : LCon := LCon.shape sh_laws_FnSysMint_l0 bs_laws_FnSysMint_l0 laws_FnSysMint_l0 (fun a => (.exit 0, encSt [(3, .one (.ptr 0 0 0)), (4, .one (.dat I)), (5, .one (.dat I)), (8, .one (.ptr 1 0 0)), (12, .one (.dat I))] [.var [.dat I, .dat I, .dat I, .dat (.sl tEntry), .dat (.sl I), .dat I], .var [.dat I, .dat I, .dat I, .dat (.sl tEntry), .dat (.sl I), .dat I]] a)) (fun b => encSt [(2, .one (.dat .bool))] [] b)
noncomputable def L_laws_FnSysMint : Loops := Loops.of [(0, lc_laws_FnSysMint_l0)]
theorem r_laws_FnSysMint_l0 (x : FSt sh_laws_FnSysMint_l0 bs_laws_FnSysMint_l0) : roundK C_laws_FnSysMint.T (C_laws_FnSysMint.hint 3) C_laws_FnSysMint.mode O_laws_FnSysMint L_laws_FnSysMint 0 (lp Try.prog 3 0) (encSt sh_laws_FnSysMint_l0 bs_laws_FnSysMint_l0 x) (fun e s => some (e, s)) =
    laws_FnSysMint_l0K x.1 x.2.1 x.2.2.1 x.2.2.2.1 x.2.2.2.2.1 x.2.2.2.2.2.1 x.2.2.2.2.2.2.1 x.2.2.2.2.2.2.2.1 x.2.2.2.2.2.2.2.2.1 x.2.2.2.2.2.2.2.2.2.1 x.2.2.2.2.2.2.2.2.2.2.1 x.2.2.2.2.2.2.2.2.2.2.2.1 x.2.2.2.2.2.2.2.2.2.2.2.2.1 x.2.2.2.2.2.2.2.2.2.2.2.2.2.1 x.2.2.2.2.2.2.2.2.2.2.2.2.2.2.1 x.2.2.2.2.2.2.2.2.2.2.2.2.2.2.2.1 (fun y => some (Ex.normal, encSt sh_laws_FnSysMint_l0 bs_laws_FnSysMint_l0 y)) (fun a => some (Ex.exit 0, encSt [(3, .one (.ptr 0 0 0)), (4, .one (.dat I)), (5, .one (.dat I)), (8, .one (.ptr 1 0 0)), (12, .one (.dat I))] [.var [.dat I, .dat I, .dat I, .dat (.sl tEntry), .dat (.sl I), .dat I], .var [.dat I, .dat I, .dat I, .dat (.sl tEntry), .dat (.sl I), .dat I]] a)) (fun b => some (Ex.ret, encSt [(2, .one (.dat .bool))] [] b)) := by kernel_rfl
theorem lo_laws_FnSysMint_l0 : LConOk C_laws_FnSysMint.T (C_laws_FnSysMint.hint 3) C_laws_FnSysMint.mode O_laws_FnSysMint L_laws_FnSysMint 0 (lp Try.prog 3 0) lc_laws_FnSysMint_l0 :=
  LCon.shape_ok (fun a => by simp) fun x => (r_laws_FnSysMint_l0 x).trans (laws_FnSysMint_l0_eq x.1 x.2.1 x.2.2.1 x.2.2.2.1 x.2.2.2.2.1 x.2.2.2.2.2.1 x.2.2.2.2.2.2.1 x.2.2.2.2.2.2.2.1 x.2.2.2.2.2.2.2.2.1 x.2.2.2.2.2.2.2.2.2.1 x.2.2.2.2.2.2.2.2.2.2.1 x.2.2.2.2.2.2.2.2.2.2.2.1 x.2.2.2.2.2.2.2.2.2.2.2.2.1 x.2.2.2.2.2.2.2.2.2.2.2.2.2.1 x.2.2.2.2.2.2.2.2.2.2.2.2.2.2.1 x.2.2.2.2.2.2.2.2.2.2.2.2.2.2.2.1 _ _ _)
theorem lf_laws_FnSysMint : LoopsFn Try.prog C_laws_FnSysMint O_laws_FnSysMint 3 L_laws_FnSysMint := LoopsFn.all (by kernel_rfl) (by decide) ⟨lo_laws_FnSysMint_l0, trivial⟩
def out_laws_FnSysMint (r : Bool) : AV × Store := out1 (.one (.dat .bool)) [] (r, ())
theorem w_laws_FnSysMint (x : FAr [.one (.dat (.sl (.int .u8)))] []) : evBodyK Try.prog C_laws_FnSysMint O_laws_FnSysMint L_laws_FnSysMint 3 (encAr [.one (.dat (.sl (.int .u8)))] [] x).1 (encAr [.one (.dat (.sl (.int .u8)))] [] x).2 (fun v s => some (v, s)) =
    laws_FnSysMintK x.1 (fun r => some (out_laws_FnSysMint r)) := by kernel_rfl
theorem sem_laws_FnSysMint : ∀ x y, (fun x => laws_FnSysMint x.1) x = some y → SemCall Try.prog 3 (encAr [.one (.dat (.sl (.int .u8)))] [] x).1 (encAr [.one (.dat (.sl (.int .u8)))] [] x).2 (out_laws_FnSysMint y).1 (out_laws_FnSysMint y).2 :=
  sem_of folP okP tabP (Oracle.of_ok (Oracle.cons_ok ok_spec_DrawSysMint (Oracle.cons_ok ok_impl_SysMint (Oracle.cons_ok ok_spec_SysMint (Oracle.cons_ok ok_laws_sameKernel (Oracle.cons_ok ok_spec_KernelValid (Oracle.cons_ok ok_laws_alive (Oracle.cons_ok ok_impl_StrongestLeft (Oracle.cons_ok ok_impl_KernelValid (Oracle.cons_ok ok_impl_CapWithin Oracle.nil_ok)))))))))) lf_laws_FnSysMint fun x => (w_laws_FnSysMint x).trans (laws_FnSysMint_eq x.1 _)
noncomputable def c_laws_FnSysMint : Con := Con.shape [.one (.dat (.sl (.int .u8)))] [] (fun x => laws_FnSysMint x.1) out_laws_FnSysMint
theorem ok_laws_FnSysMint : ConOk Try.prog 3 c_laws_FnSysMint := Con.shape_ok sem_laws_FnSysMint

/-! 28 -/
def C_spec_DrawSysRetype : Cfg := { T := tab, hint := fun _ => { mu := [2, 6, 9], keepR := [0, 2, 3, 4, 5, 6, 7], res := [2, 3, 4], order := [(4, [(2, .read), (3, .read), (1, .pure), (0, .aside [1, 2, 3]), (4, .forced), (5, .forced), (6, .forced), (7, .forced)])] }, mode := modeOf [(52, .sub), (53, .sub), (55, .sub)] }
noncomputable def O_spec_DrawSysRetype : Oracle := Oracle.of [(51, c_spec_l20Open), (52, c_spec_l20Kernel), (53, c_spec_l20Site), (55, c_spec_l20Rd_pick)]
noncomputable def L_spec_DrawSysRetype : Loops := Loops.of []
theorem lf_spec_DrawSysRetype : LoopsFn Try.prog C_spec_DrawSysRetype O_spec_DrawSysRetype 28 L_spec_DrawSysRetype := LoopsFn.nil' (by kernel_rfl)
def out_spec_DrawSysRetype (r : Int × Int × Int × Int × Int × Int × (List DEntry) × (List Int)) : AV × Store := outT [.agg [.dat I, .dat I, .dat I, .all 0, .all 1, .dat I], .one (.dat I), .one (.dat I)] [.data tEntry, .data I] (r.1, r.2.1, r.2.2.1, r.2.2.2.1, r.2.2.2.2.1, r.2.2.2.2.2.1, r.2.2.2.2.2.2.1, r.2.2.2.2.2.2.2, ())
theorem w_spec_DrawSysRetype (x : FAr [.one (.dat (.sl (.int .u8)))] []) : evBodyK Try.prog C_spec_DrawSysRetype O_spec_DrawSysRetype L_spec_DrawSysRetype 28 (encAr [.one (.dat (.sl (.int .u8)))] [] x).1 (encAr [.one (.dat (.sl (.int .u8)))] [] x).2 (fun v s => some (v, s)) =
    spec_DrawSysRetypeK x.1 (fun r => some (out_spec_DrawSysRetype r)) := by kernel_rfl
theorem sem_spec_DrawSysRetype : ∀ x y, (fun x => spec_DrawSysRetype x.1) x = some y → SemCall Try.prog 28 (encAr [.one (.dat (.sl (.int .u8)))] [] x).1 (encAr [.one (.dat (.sl (.int .u8)))] [] x).2 (out_spec_DrawSysRetype y).1 (out_spec_DrawSysRetype y).2 :=
  sem_of folP okP tabP (Oracle.of_ok (Oracle.cons_ok ok_spec_l20Open (Oracle.cons_ok ok_spec_l20Kernel (Oracle.cons_ok ok_spec_l20Site (Oracle.cons_ok ok_spec_l20Rd_pick Oracle.nil_ok))))) lf_spec_DrawSysRetype fun x => (w_spec_DrawSysRetype x).trans (spec_DrawSysRetype_eq x.1 _)
noncomputable def c_spec_DrawSysRetype : Con := Con.shape [.one (.dat (.sl (.int .u8)))] [] (fun x => spec_DrawSysRetype x.1) out_spec_DrawSysRetype
theorem ok_spec_DrawSysRetype : ConOk Try.prog 28 c_spec_DrawSysRetype := Con.shape_ok sem_spec_DrawSysRetype

/-! 78 -/
def C_impl_ObjectBits : Cfg := { T := tab, hint := fun _ => { keep := [8], keepR := [0, 2, 3, 4, 6, 8, 12], res := [2], keepX := [(0, [])] }, mode := fun _ => .borrow }
noncomputable def O_impl_ObjectBits : Oracle := Oracle.of []
noncomputable def L_impl_ObjectBits : Loops := Loops.of []
theorem lf_impl_ObjectBits : LoopsFn Try.prog C_impl_ObjectBits O_impl_ObjectBits 78 L_impl_ObjectBits := LoopsFn.nil' (by kernel_rfl)
def out_impl_ObjectBits (r : Int) : AV × Store := out1 (.one (.dat I)) [] (r, ())
theorem w_impl_ObjectBits (x : FAr [.one (.dat I)] []) : evBodyK Try.prog C_impl_ObjectBits O_impl_ObjectBits L_impl_ObjectBits 78 (encAr [.one (.dat I)] [] x).1 (encAr [.one (.dat I)] [] x).2 (fun v s => some (v, s)) =
    impl_ObjectBitsK x.1 (fun r => some (out_impl_ObjectBits r)) := by kernel_rfl
theorem sem_impl_ObjectBits : ∀ x y, (fun x => impl_ObjectBits x.1) x = some y → SemCall Try.prog 78 (encAr [.one (.dat I)] [] x).1 (encAr [.one (.dat I)] [] x).2 (out_impl_ObjectBits y).1 (out_impl_ObjectBits y).2 :=
  sem_of folP okP tabP (Oracle.of_ok Oracle.nil_ok) lf_impl_ObjectBits fun x => (w_impl_ObjectBits x).trans (impl_ObjectBits_eq x.1 _)
noncomputable def c_impl_ObjectBits : Con := Con.shape [.one (.dat I)] [] (fun x => impl_ObjectBits x.1) out_impl_ObjectBits
theorem ok_impl_ObjectBits : ConOk Try.prog 78 c_impl_ObjectBits := Con.shape_ok sem_impl_ObjectBits

/-! 119 -/
def C_impl_Piece_room : Cfg := { T := tab, hint := fun _ => { keepR := [1, 2, 4, 5, 6, 7], res := [4, 5], order := [(3, [(0, .read), (1, .read), (2, .read), (3, .read), (4, .read), (5, .read), (6, .read), (7, .read), (8, .read), (9, .read), (10, .read), (11, .read), (12, .forced), (13, .forced)])] }, mode := fun _ => .borrow }
noncomputable def O_impl_Piece_room : Oracle := Oracle.of []
noncomputable def L_impl_Piece_room : Loops := Loops.of []
theorem lf_impl_Piece_room : LoopsFn Try.prog C_impl_Piece_room O_impl_Piece_room 119 L_impl_Piece_room := LoopsFn.nil' (by kernel_rfl)
def out_impl_Piece_room (r : Int × Int) : AV × Store := outT [.one (.dat I), .one (.dat I)] [] (r.1, r.2, ())
theorem w_impl_Piece_room (x : FAr [.one (.dat tPiece), .one (.dat I)] []) : evBodyK Try.prog C_impl_Piece_room O_impl_Piece_room L_impl_Piece_room 119 (encAr [.one (.dat tPiece), .one (.dat I)] [] x).1 (encAr [.one (.dat tPiece), .one (.dat I)] [] x).2 (fun v s => some (v, s)) =
    impl_Piece_roomK x.1 x.2.1 (fun r => some (out_impl_Piece_room r)) := by kernel_rfl
theorem sem_impl_Piece_room : ∀ x y, (fun x => impl_Piece_room x.1 x.2.1) x = some y → SemCall Try.prog 119 (encAr [.one (.dat tPiece), .one (.dat I)] [] x).1 (encAr [.one (.dat tPiece), .one (.dat I)] [] x).2 (out_impl_Piece_room y).1 (out_impl_Piece_room y).2 :=
  sem_of folP okP tabP (Oracle.of_ok Oracle.nil_ok) lf_impl_Piece_room fun x => (w_impl_Piece_room x).trans (impl_Piece_room_eq x.1 x.2.1 _)
noncomputable def c_impl_Piece_room : Con := Con.shape [.one (.dat tPiece), .one (.dat I)] [] (fun x => impl_Piece_room x.1 x.2.1) out_impl_Piece_room
theorem ok_impl_Piece_room : ConOk Try.prog 119 c_impl_Piece_room := Con.shape_ok sem_impl_Piece_room

/-! 79 -/
def C_impl_RetypePiece : Cfg := { T := tab, hint := fun _ => { mu := [3, 6, 7, 38], keepR := [1, 2, 3, 6, 7, 8, 9, 10, 11, 12, 25, 35, 40, 41, 42], res := [6, 7, 8], order := [(12, [(0, .read), (1, .read), (2, .read), (3, .read), (4, .read), (5, .forced), (6, .forced), (7, .forced), (8, .forced), (9, .forced)])], keepL := [(0, [1, 2, 3, 6, 9, 11, 40, 41])], keepX := [(0, [1, 2, 3, 6, 9, 11]), (1, [1, 2, 3, 6, 9, 11, 40, 41])] }, mode := fun _ => .borrow }
noncomputable def O_impl_RetypePiece : Oracle := Oracle.of [(71, c_impl_PieceValid), (73, c_impl_in), (119, c_impl_Piece_room)]
def sh_impl_RetypePiece_l0 : List (Nat × S2) := [(1, .one (.dat I)), (2, .one (.dat I)), (3, .one (.ptr 0 0 0)), (6, .one (.ptr 1 0 0)), (9, .one (.dat I)), (11, .one (.all 2)), (40, .one (.dat I)), (41, .one (.dat I))]
def bs_impl_RetypePiece_l0 : List SB := [.one tPiece, .one tPiece, .data I]
noncomputable def lc_impl_RetypePiece_l0 : LCon := LCon.shape1 sh_impl_RetypePiece_l0 bs_impl_RetypePiece_l0 impl_RetypePiece_l0 (fun a => (.exit 0, encSt [(1, .one (.dat I)), (2, .one (.dat I)), (3, .one (.ptr 0 0 0)), (6, .one (.ptr 1 0 0)), (9, .one (.dat I)), (11, .one (.all 2))] [.one tPiece, .one tPiece, .data I] a))
noncomputable def L_impl_RetypePiece : Loops := Loops.of [(0, lc_impl_RetypePiece_l0)]
theorem r_impl_RetypePiece_l0 (x : FSt sh_impl_RetypePiece_l0 bs_impl_RetypePiece_l0) : roundK C_impl_RetypePiece.T (C_impl_RetypePiece.hint 79) C_impl_RetypePiece.mode O_impl_RetypePiece L_impl_RetypePiece 0 (lp Try.prog 79 0) (encSt sh_impl_RetypePiece_l0 bs_impl_RetypePiece_l0 x) (fun e s => some (e, s)) =
    impl_RetypePiece_l0K x.1 x.2.1 x.2.2.1 x.2.2.2.1 x.2.2.2.2.1 x.2.2.2.2.2.1 x.2.2.2.2.2.2.1 x.2.2.2.2.2.2.2.1 (fun y => some (Ex.normal, encSt sh_impl_RetypePiece_l0 bs_impl_RetypePiece_l0 y)) (fun a => some (Ex.exit 0, encSt [(1, .one (.dat I)), (2, .one (.dat I)), (3, .one (.ptr 0 0 0)), (6, .one (.ptr 1 0 0)), (9, .one (.dat I)), (11, .one (.all 2))] [.one tPiece, .one tPiece, .data I] a)) := by kernel_rfl
theorem lo_impl_RetypePiece_l0 : LConOk C_impl_RetypePiece.T (C_impl_RetypePiece.hint 79) C_impl_RetypePiece.mode O_impl_RetypePiece L_impl_RetypePiece 0 (lp Try.prog 79 0) lc_impl_RetypePiece_l0 :=
  LCon.shape1_ok (fun a => by simp) fun x => (r_impl_RetypePiece_l0 x).trans (impl_RetypePiece_l0_eq x.1 x.2.1 x.2.2.1 x.2.2.2.1 x.2.2.2.2.1 x.2.2.2.2.2.1 x.2.2.2.2.2.2.1 x.2.2.2.2.2.2.2.1 _ _)
theorem lf_impl_RetypePiece : LoopsFn Try.prog C_impl_RetypePiece O_impl_RetypePiece 79 L_impl_RetypePiece := LoopsFn.all (by kernel_rfl) (by decide) ⟨lo_impl_RetypePiece_l0, trivial⟩
def out_impl_RetypePiece (r : DPiece × Bool × (List Int)) : AV × Store := outT [.one (.dat tPiece), .one (.all 0), .one (.dat .bool)] [.data I] (r.1, r.2.1, r.2.2, ())
theorem w_impl_RetypePiece (x : FAr [.one (.dat tPiece), .one (.dat I), .one (.dat I)] []) : evBodyK Try.prog C_impl_RetypePiece O_impl_RetypePiece L_impl_RetypePiece 79 (encAr [.one (.dat tPiece), .one (.dat I), .one (.dat I)] [] x).1 (encAr [.one (.dat tPiece), .one (.dat I), .one (.dat I)] [] x).2 (fun v s => some (v, s)) =
    impl_RetypePieceK x.1 x.2.1 x.2.2.1 (fun r => some (out_impl_RetypePiece r)) := by kernel_rfl
theorem sem_impl_RetypePiece : ∀ x y, (fun x => impl_RetypePiece x.1 x.2.1 x.2.2.1) x = some y → SemCall Try.prog 79 (encAr [.one (.dat tPiece), .one (.dat I), .one (.dat I)] [] x).1 (encAr [.one (.dat tPiece), .one (.dat I), .one (.dat I)] [] x).2 (out_impl_RetypePiece y).1 (out_impl_RetypePiece y).2 :=
  sem_of folP okP tabP (Oracle.of_ok (Oracle.cons_ok ok_impl_PieceValid (Oracle.cons_ok ok_impl_in (Oracle.cons_ok ok_impl_Piece_room Oracle.nil_ok)))) lf_impl_RetypePiece fun x => (w_impl_RetypePiece x).trans (impl_RetypePiece_eq x.1 x.2.1 x.2.2.1 _)
noncomputable def c_impl_RetypePiece : Con := Con.shape [.one (.dat tPiece), .one (.dat I), .one (.dat I)] [] (fun x => impl_RetypePiece x.1 x.2.1 x.2.2.1) out_impl_RetypePiece
theorem ok_impl_RetypePiece : ConOk Try.prog 79 c_impl_RetypePiece := Con.shape_ok sem_impl_RetypePiece

/-! 29 -/
def C_impl_SysRetype : Cfg := { T := tab, hint := fun _ => { mu := [6, 8, 10, 18, 64], keepR := [1, 2, 3, 6, 7, 8, 9, 10, 12, 15, 21, 27, 31, 51], res := [6, 7], keepX := [(0, [1, 2, 3, 6, 8, 9])], fillR := true }, mode := fun _ => .borrow }
noncomputable def O_impl_SysRetype : Oracle := Oracle.of [(26, c_impl_KernelValid), (56, c_impl_Kernel_copyOf), (58, c_impl_Kernel_empty), (78, c_impl_ObjectBits), (79, c_impl_RetypePiece), (80, c_impl_clone_Entry)]
noncomputable def L_impl_SysRetype : Loops := Loops.of []
theorem lf_impl_SysRetype : LoopsFn Try.prog C_impl_SysRetype O_impl_SysRetype 29 L_impl_SysRetype := LoopsFn.nil' (by kernel_rfl)
def out_impl_SysRetype (r : Int × Int × Int × Int × Int × (List DEntry) × (List Int)) : AV × Store := outT [.agg [.dat I, .dat I, .dat I, .all 0, .all 1, .dat I], .one (.dat I)] [.data tEntry, .data I] (r.1, r.2.1, r.2.2.1, r.2.2.2.1, r.2.2.2.2.1, r.2.2.2.2.2.1, r.2.2.2.2.2.2, ())
theorem w_impl_SysRetype (x : FAr [.one (.dat tKernel), .one (.dat I), .one (.dat I)] []) : evBodyK Try.prog C_impl_SysRetype O_impl_SysRetype L_impl_SysRetype 29 (encAr [.one (.dat tKernel), .one (.dat I), .one (.dat I)] [] x).1 (encAr [.one (.dat tKernel), .one (.dat I), .one (.dat I)] [] x).2 (fun v s => some (v, s)) =
    impl_SysRetypeK x.1 x.2.1 x.2.2.1 (fun r => some (out_impl_SysRetype r)) := by kernel_rfl
theorem sem_impl_SysRetype : ∀ x y, (fun x => impl_SysRetype x.1 x.2.1 x.2.2.1) x = some y → SemCall Try.prog 29 (encAr [.one (.dat tKernel), .one (.dat I), .one (.dat I)] [] x).1 (encAr [.one (.dat tKernel), .one (.dat I), .one (.dat I)] [] x).2 (out_impl_SysRetype y).1 (out_impl_SysRetype y).2 :=
  sem_of folP okP tabP (Oracle.of_ok (Oracle.cons_ok ok_impl_KernelValid (Oracle.cons_ok ok_impl_Kernel_copyOf (Oracle.cons_ok ok_impl_Kernel_empty (Oracle.cons_ok ok_impl_ObjectBits (Oracle.cons_ok ok_impl_RetypePiece (Oracle.cons_ok ok_impl_clone_Entry Oracle.nil_ok))))))) lf_impl_SysRetype fun x => (w_impl_SysRetype x).trans (impl_SysRetype_eq x.1 x.2.1 x.2.2.1 _)
noncomputable def c_impl_SysRetype : Con := Con.shape [.one (.dat tKernel), .one (.dat I), .one (.dat I)] [] (fun x => impl_SysRetype x.1 x.2.1 x.2.2.1) out_impl_SysRetype
theorem ok_impl_SysRetype : ConOk Try.prog 29 c_impl_SysRetype := Con.shape_ok sem_impl_SysRetype

/-! 4 -/
def C_laws_FnSysRetype : Cfg := { T := tab, hint := fun _ => { mu := [3, 6, 8], keepR := [0, 2, 3, 4, 5, 6, 7, 8, 9, 10, 13, 42, 44], res := [2], order := [(11, [(0, .forced), (1, .forced), (2, .forced), (3, .read), (4, .read), (5, .read), (6, .forced), (7, .forced), (8, .forced), (9, .forced), (10, .forced), (11, .read), (12, .read), (13, .read), (14, .read), (15, .forced), (16, .forced), (17, .forced), (18, .forced), (19, .forced), (20, .read), (21, .read), (22, .read), (23, .read), (24, .read), (25, .forced), (26, .forced), (27, .forced), (28, .forced), (29, .read), (30, .read), (31, .read), (32, .read), (33, .read), (34, .read), (35, .read), (36, .forced), (37, .forced), (38, .forced), (39, .forced), (40, .forced), (41, .forced), (42, .read), (43, .read), (44, .read), (45, .forced), (46, .forced), (47, .forced), (48, .forced), (49, .forced), (50, .forced)])] }, mode := fun _ => .borrow }
noncomputable def O_laws_FnSysRetype : Oracle := Oracle.of [(22, c_laws_sameKernel), (23, c_spec_KernelValid), (24, c_laws_alive), (25, c_impl_StrongestLeft), (26, c_impl_KernelValid), (28, c_spec_DrawSysRetype), (29, c_impl_SysRetype), (30, c_spec_SysRetype), (31, c_laws_sameTree)]
noncomputable def L_laws_FnSysRetype : Loops := Loops.of []
theorem lf_laws_FnSysRetype : LoopsFn Try.prog C_laws_FnSysRetype O_laws_FnSysRetype 4 L_laws_FnSysRetype := LoopsFn.nil' (by kernel_rfl)
def out_laws_FnSysRetype (r : Bool) : AV × Store := out1 (.one (.dat .bool)) [] (r, ())
theorem w_laws_FnSysRetype (x : FAr [.one (.dat (.sl (.int .u8)))] []) : evBodyK Try.prog C_laws_FnSysRetype O_laws_FnSysRetype L_laws_FnSysRetype 4 (encAr [.one (.dat (.sl (.int .u8)))] [] x).1 (encAr [.one (.dat (.sl (.int .u8)))] [] x).2 (fun v s => some (v, s)) =
    laws_FnSysRetypeK x.1 (fun r => some (out_laws_FnSysRetype r)) := by kernel_rfl
theorem sem_laws_FnSysRetype : ∀ x y, (fun x => laws_FnSysRetype x.1) x = some y → SemCall Try.prog 4 (encAr [.one (.dat (.sl (.int .u8)))] [] x).1 (encAr [.one (.dat (.sl (.int .u8)))] [] x).2 (out_laws_FnSysRetype y).1 (out_laws_FnSysRetype y).2 :=
  sem_of folP okP tabP (Oracle.of_ok (Oracle.cons_ok ok_laws_sameKernel (Oracle.cons_ok ok_spec_KernelValid (Oracle.cons_ok ok_laws_alive (Oracle.cons_ok ok_impl_StrongestLeft (Oracle.cons_ok ok_impl_KernelValid (Oracle.cons_ok ok_spec_DrawSysRetype (Oracle.cons_ok ok_impl_SysRetype (Oracle.cons_ok ok_spec_SysRetype (Oracle.cons_ok ok_laws_sameTree Oracle.nil_ok)))))))))) lf_laws_FnSysRetype fun x => (w_laws_FnSysRetype x).trans (laws_FnSysRetype_eq x.1 _)
noncomputable def c_laws_FnSysRetype : Con := Con.shape [.one (.dat (.sl (.int .u8)))] [] (fun x => laws_FnSysRetype x.1) out_laws_FnSysRetype
theorem ok_laws_FnSysRetype : ConOk Try.prog 4 c_laws_FnSysRetype := Con.shape_ok sem_laws_FnSysRetype

/-! 138 -/
def C_math_bits_Mul64 : Cfg := { T := tab, hint := fun _ => { keepR := [0, 1, 4, 5, 6, 7, 8, 9, 10, 11, 12, 13], res := [4, 5] }, mode := fun _ => .borrow }
noncomputable def O_math_bits_Mul64 : Oracle := Oracle.of []
noncomputable def L_math_bits_Mul64 : Loops := Loops.of []
theorem lf_math_bits_Mul64 : LoopsFn Try.prog C_math_bits_Mul64 O_math_bits_Mul64 138 L_math_bits_Mul64 := LoopsFn.nil' (by kernel_rfl)
def out_math_bits_Mul64 (r : Int × Int) : AV × Store := outT [.one (.dat (.int .u64)), .one (.dat (.int .u64))] [] (r.1, r.2, ())
theorem w_math_bits_Mul64 (x : FAr [.one (.dat (.int .u64)), .one (.dat (.int .u64))] []) : evBodyK Try.prog C_math_bits_Mul64 O_math_bits_Mul64 L_math_bits_Mul64 138 (encAr [.one (.dat (.int .u64)), .one (.dat (.int .u64))] [] x).1 (encAr [.one (.dat (.int .u64)), .one (.dat (.int .u64))] [] x).2 (fun v s => some (v, s)) =
    math_bits_Mul64K x.1 x.2.1 (fun r => some (out_math_bits_Mul64 r)) := by kernel_rfl
theorem sem_math_bits_Mul64 : ∀ x y, (fun x => math_bits_Mul64 x.1 x.2.1) x = some y → SemCall Try.prog 138 (encAr [.one (.dat (.int .u64)), .one (.dat (.int .u64))] [] x).1 (encAr [.one (.dat (.int .u64)), .one (.dat (.int .u64))] [] x).2 (out_math_bits_Mul64 y).1 (out_math_bits_Mul64 y).2 :=
  sem_of folP okP tabP (Oracle.of_ok Oracle.nil_ok) lf_math_bits_Mul64 fun x => (w_math_bits_Mul64 x).trans (math_bits_Mul64_eq x.1 x.2.1 _)
noncomputable def c_math_bits_Mul64 : Con := Con.shape [.one (.dat (.int .u64)), .one (.dat (.int .u64))] [] (fun x => math_bits_Mul64 x.1 x.2.1) out_math_bits_Mul64
theorem ok_math_bits_Mul64 : ConOk Try.prog 138 c_math_bits_Mul64 := Con.shape_ok sem_math_bits_Mul64

/-! 124 -/
def C_math_bits_Mul : Cfg := { T := tab, hint := fun _ => { keepR := [0, 1, 4, 5, 6, 7, 8, 9], res := [4, 5] }, mode := fun _ => .borrow }
noncomputable def O_math_bits_Mul : Oracle := Oracle.of [(138, c_math_bits_Mul64)]
noncomputable def L_math_bits_Mul : Loops := Loops.of []
theorem lf_math_bits_Mul : LoopsFn Try.prog C_math_bits_Mul O_math_bits_Mul 124 L_math_bits_Mul := LoopsFn.nil' (by kernel_rfl)
def out_math_bits_Mul (r : Int × Int) : AV × Store := outT [.one (.dat (.int .u64)), .one (.dat (.int .u64))] [] (r.1, r.2, ())
theorem w_math_bits_Mul (x : FAr [.one (.dat (.int .u64)), .one (.dat (.int .u64))] []) : evBodyK Try.prog C_math_bits_Mul O_math_bits_Mul L_math_bits_Mul 124 (encAr [.one (.dat (.int .u64)), .one (.dat (.int .u64))] [] x).1 (encAr [.one (.dat (.int .u64)), .one (.dat (.int .u64))] [] x).2 (fun v s => some (v, s)) =
    math_bits_MulK x.1 x.2.1 (fun r => some (out_math_bits_Mul r)) := by kernel_rfl
theorem sem_math_bits_Mul : ∀ x y, (fun x => math_bits_Mul x.1 x.2.1) x = some y → SemCall Try.prog 124 (encAr [.one (.dat (.int .u64)), .one (.dat (.int .u64))] [] x).1 (encAr [.one (.dat (.int .u64)), .one (.dat (.int .u64))] [] x).2 (out_math_bits_Mul y).1 (out_math_bits_Mul y).2 :=
  sem_of folP okP tabP (Oracle.of_ok (Oracle.cons_ok ok_math_bits_Mul64 Oracle.nil_ok)) lf_math_bits_Mul fun x => (w_math_bits_Mul x).trans (math_bits_Mul_eq x.1 x.2.1 _)
noncomputable def c_math_bits_Mul : Con := Con.shape [.one (.dat (.int .u64)), .one (.dat (.int .u64))] [] (fun x => math_bits_Mul x.1 x.2.1) out_math_bits_Mul
theorem ok_math_bits_Mul : ConOk Try.prog 124 c_math_bits_Mul := Con.shape_ok sem_math_bits_Mul

/-! 83 -/
def C_slices_Repeat_int : Cfg := { T := tab, hint := fun _ => { mu := [30], keepR := [0, 1, 4, 5, 6, 7, 8, 10, 26, 37], res := [4], order := [(9, [(1, .read), (2, .read), (3, .read), (4, .read), (5, .read), (6, .read), (0, .pure), (7, .forced), (8, .forced), (9, .forced)])], keepL := [(0, [7, 8])], keepX := [(0, [7]), (1, [7, 8])] }, mode := fun _ => .borrow }
noncomputable def O_slices_Repeat_int : Oracle := Oracle.of [(124, c_math_bits_Mul)]
def sh_slices_Repeat_int_l0 : List (Nat × S2) := [(7, .one (.all 0)), (8, .one (.dat I))]
def bs_slices_Repeat_int_l0 : List SB := [.data I]
noncomputable def lc_slices_Repeat_int_l0 : LCon := LCon.shape1 sh_slices_Repeat_int_l0 bs_slices_Repeat_int_l0 slices_Repeat_int_l0 (fun a => (.exit 0, encSt [(7, .one (.all 0))] [.data I] a))
noncomputable def L_slices_Repeat_int : Loops := Loops.of [(0, lc_slices_Repeat_int_l0)]
theorem r_slices_Repeat_int_l0 (x : FSt sh_slices_Repeat_int_l0 bs_slices_Repeat_int_l0) : roundK C_slices_Repeat_int.T (C_slices_Repeat_int.hint 83) C_slices_Repeat_int.mode O_slices_Repeat_int L_slices_Repeat_int 0 (lp Try.prog 83 0) (encSt sh_slices_Repeat_int_l0 bs_slices_Repeat_int_l0 x) (fun e s => some (e, s)) =
    slices_Repeat_int_l0K x.1 x.2.1 (fun y => some (Ex.normal, encSt sh_slices_Repeat_int_l0 bs_slices_Repeat_int_l0 y)) (fun a => some (Ex.exit 0, encSt [(7, .one (.all 0))] [.data I] a)) := by kernel_rfl
theorem lo_slices_Repeat_int_l0 : LConOk C_slices_Repeat_int.T (C_slices_Repeat_int.hint 83) C_slices_Repeat_int.mode O_slices_Repeat_int L_slices_Repeat_int 0 (lp Try.prog 83 0) lc_slices_Repeat_int_l0 :=
  LCon.shape1_ok (fun a => by simp) fun x => (r_slices_Repeat_int_l0 x).trans (slices_Repeat_int_l0_eq x.1 x.2.1 _ _)
theorem lf_slices_Repeat_int : LoopsFn Try.prog C_slices_Repeat_int O_slices_Repeat_int 83 L_slices_Repeat_int := LoopsFn.all (by kernel_rfl) (by decide) ⟨lo_slices_Repeat_int_l0, trivial⟩
def out_slices_Repeat_int (r : (List Int)) : AV × Store := out1 (.one (.all 0)) [.data I] (r, ())
theorem w_slices_Repeat_int (x : FAr [.one (.dat (.sl I)), .one (.dat I)] []) : evBodyK Try.prog C_slices_Repeat_int O_slices_Repeat_int L_slices_Repeat_int 83 (encAr [.one (.dat (.sl I)), .one (.dat I)] [] x).1 (encAr [.one (.dat (.sl I)), .one (.dat I)] [] x).2 (fun v s => some (v, s)) =
    slices_Repeat_intK x.1 x.2.1 (fun r => some (out_slices_Repeat_int r)) := by kernel_rfl
theorem sem_slices_Repeat_int : ∀ x y, (fun x => slices_Repeat_int x.1 x.2.1) x = some y → SemCall Try.prog 83 (encAr [.one (.dat (.sl I)), .one (.dat I)] [] x).1 (encAr [.one (.dat (.sl I)), .one (.dat I)] [] x).2 (out_slices_Repeat_int y).1 (out_slices_Repeat_int y).2 :=
  sem_of folP okP tabP (Oracle.of_ok (Oracle.cons_ok ok_math_bits_Mul Oracle.nil_ok)) lf_slices_Repeat_int fun x => (w_slices_Repeat_int x).trans (slices_Repeat_int_eq x.1 x.2.1 _)
noncomputable def c_slices_Repeat_int : Con := Con.shape [.one (.dat (.sl I)), .one (.dat I)] [] (fun x => slices_Repeat_int x.1 x.2.1) out_slices_Repeat_int
theorem ok_slices_Repeat_int : ConOk Try.prog 83 c_slices_Repeat_int := Con.shape_ok sem_slices_Repeat_int

/-! 33 -/
def C_impl_NewKernel : Cfg := { T := tab, hint := fun _ => { mu := [4, 18], keepR := [0, 1, 4, 12], res := [4], fillR := true }, mode := fun _ => .borrow }
noncomputable def O_impl_NewKernel : Oracle := Oracle.of [(73, c_impl_in), (83, c_slices_Repeat_int)]
noncomputable def L_impl_NewKernel : Loops := Loops.of []
theorem lf_impl_NewKernel : LoopsFn Try.prog C_impl_NewKernel O_impl_NewKernel 33 L_impl_NewKernel := LoopsFn.nil' (by kernel_rfl)
def out_impl_NewKernel (r : Int × Int × Int × Int × (List DEntry) × (List Int)) : AV × Store := out1 (.agg [.dat I, .dat I, .dat I, .all 0, .all 1, .dat I]) [.data tEntry, .data I] (r.1, r.2.1, r.2.2.1, r.2.2.2.1, r.2.2.2.2.1, r.2.2.2.2.2, ())
theorem w_impl_NewKernel (x : FAr [.one (.dat I), .one (.dat I)] []) : evBodyK Try.prog C_impl_NewKernel O_impl_NewKernel L_impl_NewKernel 33 (encAr [.one (.dat I), .one (.dat I)] [] x).1 (encAr [.one (.dat I), .one (.dat I)] [] x).2 (fun v s => some (v, s)) =
    impl_NewKernelK x.1 x.2.1 (fun r => some (out_impl_NewKernel r)) := by kernel_rfl
theorem sem_impl_NewKernel : ∀ x y, (fun x => impl_NewKernel x.1 x.2.1) x = some y → SemCall Try.prog 33 (encAr [.one (.dat I), .one (.dat I)] [] x).1 (encAr [.one (.dat I), .one (.dat I)] [] x).2 (out_impl_NewKernel y).1 (out_impl_NewKernel y).2 :=
  sem_of folP okP tabP (Oracle.of_ok (Oracle.cons_ok ok_impl_in (Oracle.cons_ok ok_slices_Repeat_int Oracle.nil_ok))) lf_impl_NewKernel fun x => (w_impl_NewKernel x).trans (impl_NewKernel_eq x.1 x.2.1 _)
noncomputable def c_impl_NewKernel : Con := Con.shape [.one (.dat I), .one (.dat I)] [] (fun x => impl_NewKernel x.1 x.2.1) out_impl_NewKernel
theorem ok_impl_NewKernel : ConOk Try.prog 33 c_impl_NewKernel := Con.shape_ok sem_impl_NewKernel

/-! 84 -/
def C_laws_eqPiece : Cfg := { T := tab, hint := fun _ => { keepR := [2, 3, 4, 9, 14, 19], res := [4] }, mode := fun _ => .borrow }
noncomputable def O_laws_eqPiece : Oracle := Oracle.of []
noncomputable def L_laws_eqPiece : Loops := Loops.of []
theorem lf_laws_eqPiece : LoopsFn Try.prog C_laws_eqPiece O_laws_eqPiece 84 L_laws_eqPiece := LoopsFn.nil' (by kernel_rfl)
def out_laws_eqPiece (r : Bool) : AV × Store := out1 (.one (.dat .bool)) [] (r, ())
theorem w_laws_eqPiece (x : FAr [.one (.dat tPiece), .one (.dat tPiece)] []) : evBodyK Try.prog C_laws_eqPiece O_laws_eqPiece L_laws_eqPiece 84 (encAr [.one (.dat tPiece), .one (.dat tPiece)] [] x).1 (encAr [.one (.dat tPiece), .one (.dat tPiece)] [] x).2 (fun v s => some (v, s)) =
    laws_eqPieceK x.1 x.2.1 (fun r => some (out_laws_eqPiece r)) := by kernel_rfl
theorem sem_laws_eqPiece : ∀ x y, (fun x => laws_eqPiece x.1 x.2.1) x = some y → SemCall Try.prog 84 (encAr [.one (.dat tPiece), .one (.dat tPiece)] [] x).1 (encAr [.one (.dat tPiece), .one (.dat tPiece)] [] x).2 (out_laws_eqPiece y).1 (out_laws_eqPiece y).2 :=
  sem_of folP okP tabP (Oracle.of_ok Oracle.nil_ok) lf_laws_eqPiece fun x => (w_laws_eqPiece x).trans (laws_eqPiece_eq x.1 x.2.1 _)
noncomputable def c_laws_eqPiece : Con := Con.shape [.one (.dat tPiece), .one (.dat tPiece)] [] (fun x => laws_eqPiece x.1 x.2.1) out_laws_eqPiece
theorem ok_laws_eqPiece : ConOk Try.prog 84 c_laws_eqPiece := Con.shape_ok sem_laws_eqPiece

/-! 139 -/
def C_laws_eqCap : Cfg := { T := tab, hint := fun _ => { keepR := [2, 3, 4, 9, 14, 19, 24], res := [4] }, mode := fun _ => .borrow }
noncomputable def O_laws_eqCap : Oracle := Oracle.of []
noncomputable def L_laws_eqCap : Loops := Loops.of []
theorem lf_laws_eqCap : LoopsFn Try.prog C_laws_eqCap O_laws_eqCap 139 L_laws_eqCap := LoopsFn.nil' (by kernel_rfl)
def out_laws_eqCap (r : Bool) : AV × Store := out1 (.one (.dat .bool)) [] (r, ())
theorem w_laws_eqCap (x : FAr [.one (.dat tCap), .one (.dat tCap)] []) : evBodyK Try.prog C_laws_eqCap O_laws_eqCap L_laws_eqCap 139 (encAr [.one (.dat tCap), .one (.dat tCap)] [] x).1 (encAr [.one (.dat tCap), .one (.dat tCap)] [] x).2 (fun v s => some (v, s)) =
    laws_eqCapK x.1 x.2.1 (fun r => some (out_laws_eqCap r)) := by kernel_rfl
theorem sem_laws_eqCap : ∀ x y, (fun x => laws_eqCap x.1 x.2.1) x = some y → SemCall Try.prog 139 (encAr [.one (.dat tCap), .one (.dat tCap)] [] x).1 (encAr [.one (.dat tCap), .one (.dat tCap)] [] x).2 (out_laws_eqCap y).1 (out_laws_eqCap y).2 :=
  sem_of folP okP tabP (Oracle.of_ok Oracle.nil_ok) lf_laws_eqCap fun x => (w_laws_eqCap x).trans (laws_eqCap_eq x.1 x.2.1 _)
noncomputable def c_laws_eqCap : Con := Con.shape [.one (.dat tCap), .one (.dat tCap)] [] (fun x => laws_eqCap x.1 x.2.1) out_laws_eqCap
theorem ok_laws_eqCap : ConOk Try.prog 139 c_laws_eqCap := Con.shape_ok sem_laws_eqCap

/-! 125 -/
def C_laws_eqEntry : Cfg := { T := tab, hint := fun _ => { keepR := [2, 3, 4, 10, 15, 20], res := [4] }, mode := fun _ => .borrow }
noncomputable def O_laws_eqEntry : Oracle := Oracle.of [(139, c_laws_eqCap)]
noncomputable def L_laws_eqEntry : Loops := Loops.of []
theorem lf_laws_eqEntry : LoopsFn Try.prog C_laws_eqEntry O_laws_eqEntry 125 L_laws_eqEntry := LoopsFn.nil' (by kernel_rfl)
def out_laws_eqEntry (r : Bool) : AV × Store := out1 (.one (.dat .bool)) [] (r, ())
theorem w_laws_eqEntry (x : FAr [.one (.dat tEntry), .one (.dat tEntry)] []) : evBodyK Try.prog C_laws_eqEntry O_laws_eqEntry L_laws_eqEntry 125 (encAr [.one (.dat tEntry), .one (.dat tEntry)] [] x).1 (encAr [.one (.dat tEntry), .one (.dat tEntry)] [] x).2 (fun v s => some (v, s)) =
    laws_eqEntryK x.1 x.2.1 (fun r => some (out_laws_eqEntry r)) := by kernel_rfl
theorem sem_laws_eqEntry : ∀ x y, (fun x => laws_eqEntry x.1 x.2.1) x = some y → SemCall Try.prog 125 (encAr [.one (.dat tEntry), .one (.dat tEntry)] [] x).1 (encAr [.one (.dat tEntry), .one (.dat tEntry)] [] x).2 (out_laws_eqEntry y).1 (out_laws_eqEntry y).2 :=
  sem_of folP okP tabP (Oracle.of_ok (Oracle.cons_ok ok_laws_eqCap Oracle.nil_ok)) lf_laws_eqEntry fun x => (w_laws_eqEntry x).trans (laws_eqEntry_eq x.1 x.2.1 _)
noncomputable def c_laws_eqEntry : Con := Con.shape [.one (.dat tEntry), .one (.dat tEntry)] [] (fun x => laws_eqEntry x.1 x.2.1) out_laws_eqEntry
theorem ok_laws_eqEntry : ConOk Try.prog 125 c_laws_eqEntry := Con.shape_ok sem_laws_eqEntry

/-! 85 -/
def C_laws_eqEntryS : Cfg := { T := tab, hint := fun _ => { keepR := [0, 1, 4, 5, 10, 14, 26], res := [4], order := [(6, [(0, .read), (1, .read), (2, .read), (3, .read), (4, .read), (5, .forced), (6, .forced), (7, .forced), (8, .forced), (9, .forced)])], keepL := [(0, [0, 1, 5])], keepX := [(0, []), (1, [0, 1, 5])] }, mode := fun _ => .borrow }
noncomputable def O_laws_eqEntryS : Oracle := Oracle.of [(125, c_laws_eqEntry)]
def sh_laws_eqEntryS_l0 : List (Nat × S2) := [(0, .one (.dat (.sl tEntry))), (1, .one (.dat (.sl tEntry))), (5, .one (.dat I))]
def bs_laws_eqEntryS_l0 : List SB := []
noncomputable def lc_laws_eqEntryS_l0 : LCon := LCon.shape sh_laws_eqEntryS_l0 bs_laws_eqEntryS_l0 laws_eqEntryS_l0 (fun a => (.exit 0, encSt [] [] a)) (fun b => encSt [(4, .one (.dat .bool))] [] b)
noncomputable def L_laws_eqEntryS : Loops := Loops.of [(0, lc_laws_eqEntryS_l0)]
theorem r_laws_eqEntryS_l0 (x : FSt sh_laws_eqEntryS_l0 bs_laws_eqEntryS_l0) : roundK C_laws_eqEntryS.T (C_laws_eqEntryS.hint 85) C_laws_eqEntryS.mode O_laws_eqEntryS L_laws_eqEntryS 0 (lp Try.prog 85 0) (encSt sh_laws_eqEntryS_l0 bs_laws_eqEntryS_l0 x) (fun e s => some (e, s)) =
    laws_eqEntryS_l0K x.1 x.2.1 x.2.2.1 (fun y => some (Ex.normal, encSt sh_laws_eqEntryS_l0 bs_laws_eqEntryS_l0 y)) (fun a => some (Ex.exit 0, encSt [] [] a)) (fun b => some (Ex.ret, encSt [(4, .one (.dat .bool))] [] b)) := by kernel_rfl
theorem lo_laws_eqEntryS_l0 : LConOk C_laws_eqEntryS.T (C_laws_eqEntryS.hint 85) C_laws_eqEntryS.mode O_laws_eqEntryS L_laws_eqEntryS 0 (lp Try.prog 85 0) lc_laws_eqEntryS_l0 :=
  LCon.shape_ok (fun a => by simp) fun x => (r_laws_eqEntryS_l0 x).trans (laws_eqEntryS_l0_eq x.1 x.2.1 x.2.2.1 _ _ _)
theorem lf_laws_eqEntryS : LoopsFn Try.prog C_laws_eqEntryS O_laws_eqEntryS 85 L_laws_eqEntryS := LoopsFn.all (by kernel_rfl) (by decide) ⟨lo_laws_eqEntryS_l0, trivial⟩
def out_laws_eqEntryS (r : Bool) : AV × Store := out1 (.one (.dat .bool)) [] (r, ())
theorem w_laws_eqEntryS (x : FAr [.one (.dat (.sl tEntry)), .one (.dat (.sl tEntry))] []) : evBodyK Try.prog C_laws_eqEntryS O_laws_eqEntryS L_laws_eqEntryS 85 (encAr [.one (.dat (.sl tEntry)), .one (.dat (.sl tEntry))] [] x).1 (encAr [.one (.dat (.sl tEntry)), .one (.dat (.sl tEntry))] [] x).2 (fun v s => some (v, s)) =
    laws_eqEntrySK x.1 x.2.1 (fun r => some (out_laws_eqEntryS r)) := by kernel_rfl
theorem sem_laws_eqEntryS : ∀ x y, (fun x => laws_eqEntryS x.1 x.2.1) x = some y → SemCall Try.prog 85 (encAr [.one (.dat (.sl tEntry)), .one (.dat (.sl tEntry))] [] x).1 (encAr [.one (.dat (.sl tEntry)), .one (.dat (.sl tEntry))] [] x).2 (out_laws_eqEntryS y).1 (out_laws_eqEntryS y).2 :=
  sem_of folP okP tabP (Oracle.of_ok (Oracle.cons_ok ok_laws_eqEntry Oracle.nil_ok)) lf_laws_eqEntryS fun x => (w_laws_eqEntryS x).trans (laws_eqEntryS_eq x.1 x.2.1 _)
noncomputable def c_laws_eqEntryS : Con := Con.shape [.one (.dat (.sl tEntry)), .one (.dat (.sl tEntry))] [] (fun x => laws_eqEntryS x.1 x.2.1) out_laws_eqEntryS
theorem ok_laws_eqEntryS : ConOk Try.prog 85 c_laws_eqEntryS := Con.shape_ok sem_laws_eqEntryS

/-! 86 -/
def C_laws_eqIntS : Cfg := { T := tab, hint := fun _ => { keepR := [0, 1, 4, 5, 10, 14, 25], res := [4], order := [(6, [(0, .read), (1, .read), (2, .read), (3, .read), (4, .read), (5, .forced), (6, .forced), (7, .forced), (8, .forced)])], keepL := [(0, [0, 1, 5])], keepX := [(0, []), (1, [0, 1, 5])] }, mode := fun _ => .borrow }
noncomputable def O_laws_eqIntS : Oracle := Oracle.of []
def sh_laws_eqIntS_l0 : List (Nat × S2) := [(0, .one (.dat (.sl I))), (1, .one (.dat (.sl I))), (5, .one (.dat I))]
def bs_laws_eqIntS_l0 : List SB := []
noncomputable def lc_laws_eqIntS_l0 : LCon := LCon.shape sh_laws_eqIntS_l0 bs_laws_eqIntS_l0 laws_eqIntS_l0 (fun a => (.exit 0, encSt [] [] a)) (fun b => encSt [(4, .one (.dat .bool))] [] b)
noncomputable def L_laws_eqIntS : Loops := Loops.of [(0, lc_laws_eqIntS_l0)]
theorem r_laws_eqIntS_l0 (x : FSt sh_laws_eqIntS_l0 bs_laws_eqIntS_l0) : roundK C_laws_eqIntS.T (C_laws_eqIntS.hint 86) C_laws_eqIntS.mode O_laws_eqIntS L_laws_eqIntS 0 (lp Try.prog 86 0) (encSt sh_laws_eqIntS_l0 bs_laws_eqIntS_l0 x) (fun e s => some (e, s)) =
    laws_eqIntS_l0K x.1 x.2.1 x.2.2.1 (fun y => some (Ex.normal, encSt sh_laws_eqIntS_l0 bs_laws_eqIntS_l0 y)) (fun a => some (Ex.exit 0, encSt [] [] a)) (fun b => some (Ex.ret, encSt [(4, .one (.dat .bool))] [] b)) := by kernel_rfl
theorem lo_laws_eqIntS_l0 : LConOk C_laws_eqIntS.T (C_laws_eqIntS.hint 86) C_laws_eqIntS.mode O_laws_eqIntS L_laws_eqIntS 0 (lp Try.prog 86 0) lc_laws_eqIntS_l0 :=
  LCon.shape_ok (fun a => by simp) fun x => (r_laws_eqIntS_l0 x).trans (laws_eqIntS_l0_eq x.1 x.2.1 x.2.2.1 _ _ _)
theorem lf_laws_eqIntS : LoopsFn Try.prog C_laws_eqIntS O_laws_eqIntS 86 L_laws_eqIntS := LoopsFn.all (by kernel_rfl) (by decide) ⟨lo_laws_eqIntS_l0, trivial⟩
def out_laws_eqIntS (r : Bool) : AV × Store := out1 (.one (.dat .bool)) [] (r, ())
theorem w_laws_eqIntS (x : FAr [.one (.dat (.sl I)), .one (.dat (.sl I))] []) : evBodyK Try.prog C_laws_eqIntS O_laws_eqIntS L_laws_eqIntS 86 (encAr [.one (.dat (.sl I)), .one (.dat (.sl I))] [] x).1 (encAr [.one (.dat (.sl I)), .one (.dat (.sl I))] [] x).2 (fun v s => some (v, s)) =
    laws_eqIntSK x.1 x.2.1 (fun r => some (out_laws_eqIntS r)) := by kernel_rfl
theorem sem_laws_eqIntS : ∀ x y, (fun x => laws_eqIntS x.1 x.2.1) x = some y → SemCall Try.prog 86 (encAr [.one (.dat (.sl I)), .one (.dat (.sl I))] [] x).1 (encAr [.one (.dat (.sl I)), .one (.dat (.sl I))] [] x).2 (out_laws_eqIntS y).1 (out_laws_eqIntS y).2 :=
  sem_of folP okP tabP (Oracle.of_ok Oracle.nil_ok) lf_laws_eqIntS fun x => (w_laws_eqIntS x).trans (laws_eqIntS_eq x.1 x.2.1 _)
noncomputable def c_laws_eqIntS : Con := Con.shape [.one (.dat (.sl I)), .one (.dat (.sl I))] [] (fun x => laws_eqIntS x.1 x.2.1) out_laws_eqIntS
theorem ok_laws_eqIntS : ConOk Try.prog 86 c_laws_eqIntS := Con.shape_ok sem_laws_eqIntS

/-! 34 -/
def C_laws_eqKernel : Cfg := { T := tab, hint := fun _ => { keepR := [2, 3, 4, 10, 16, 22, 27], res := [4] }, mode := fun _ => .borrow }
noncomputable def O_laws_eqKernel : Oracle := Oracle.of [(84, c_laws_eqPiece), (85, c_laws_eqEntryS), (86, c_laws_eqIntS)]
noncomputable def L_laws_eqKernel : Loops := Loops.of []
theorem lf_laws_eqKernel : LoopsFn Try.prog C_laws_eqKernel O_laws_eqKernel 34 L_laws_eqKernel := LoopsFn.nil' (by kernel_rfl)
def out_laws_eqKernel (r : Bool) : AV × Store := out1 (.one (.dat .bool)) [] (r, ())
theorem w_laws_eqKernel (x : FAr [.one (.dat tKernel), .one (.dat tKernel)] []) : evBodyK Try.prog C_laws_eqKernel O_laws_eqKernel L_laws_eqKernel 34 (encAr [.one (.dat tKernel), .one (.dat tKernel)] [] x).1 (encAr [.one (.dat tKernel), .one (.dat tKernel)] [] x).2 (fun v s => some (v, s)) =
    laws_eqKernelK x.1 x.2.1 (fun r => some (out_laws_eqKernel r)) := by kernel_rfl
theorem sem_laws_eqKernel : ∀ x y, (fun x => laws_eqKernel x.1 x.2.1) x = some y → SemCall Try.prog 34 (encAr [.one (.dat tKernel), .one (.dat tKernel)] [] x).1 (encAr [.one (.dat tKernel), .one (.dat tKernel)] [] x).2 (out_laws_eqKernel y).1 (out_laws_eqKernel y).2 :=
  sem_of folP okP tabP (Oracle.of_ok (Oracle.cons_ok ok_laws_eqPiece (Oracle.cons_ok ok_laws_eqEntryS (Oracle.cons_ok ok_laws_eqIntS Oracle.nil_ok)))) lf_laws_eqKernel fun x => (w_laws_eqKernel x).trans (laws_eqKernel_eq x.1 x.2.1 _)
noncomputable def c_laws_eqKernel : Con := Con.shape [.one (.dat tKernel), .one (.dat tKernel)] [] (fun x => laws_eqKernel x.1 x.2.1) out_laws_eqKernel
theorem ok_laws_eqKernel : ConOk Try.prog 34 c_laws_eqKernel := Con.shape_ok sem_laws_eqKernel

/-! 87 -/
def C_laws_markEntryS : Cfg := { T := tab, hint := fun _ => { keepR := [0, 1, 4, 5, 9], res := [4], base := 1, keepL := [(0, [0, 1, 5])], keepX := [(0, [1]), (1, [0, 1, 5])] }, mode := fun _ => .borrow }
noncomputable def O_laws_markEntryS : Oracle := Oracle.of []
def sh_laws_markEntryS_l0 : List (Nat × S2) := [(0, .one (.all 0)), (1, .one (.dat I)), (5, .one (.dat I))]
def bs_laws_markEntryS_l0 : List SB := [.data tEntry]
noncomputable def lc_laws_markEntryS_l0 : LCon := LCon.shape1 sh_laws_markEntryS_l0 bs_laws_markEntryS_l0 laws_markEntryS_l0 (fun a => (.exit 0, encSt [(1, .one (.dat I))] [.data tEntry] a))
noncomputable def L_laws_markEntryS : Loops := Loops.of [(0, lc_laws_markEntryS_l0)]
theorem r_laws_markEntryS_l0 (x : FSt sh_laws_markEntryS_l0 bs_laws_markEntryS_l0) : roundK C_laws_markEntryS.T (C_laws_markEntryS.hint 87) C_laws_markEntryS.mode O_laws_markEntryS L_laws_markEntryS 0 (lp Try.prog 87 0) (encSt sh_laws_markEntryS_l0 bs_laws_markEntryS_l0 x) (fun e s => some (e, s)) =
    laws_markEntryS_l0K x.1 x.2.1 x.2.2.1 (fun y => some (Ex.normal, encSt sh_laws_markEntryS_l0 bs_laws_markEntryS_l0 y)) (fun a => some (Ex.exit 0, encSt [(1, .one (.dat I))] [.data tEntry] a)) := by kernel_rfl
theorem lo_laws_markEntryS_l0 : LConOk C_laws_markEntryS.T (C_laws_markEntryS.hint 87) C_laws_markEntryS.mode O_laws_markEntryS L_laws_markEntryS 0 (lp Try.prog 87 0) lc_laws_markEntryS_l0 :=
  LCon.shape1_ok (fun a => by simp) fun x => (r_laws_markEntryS_l0 x).trans (laws_markEntryS_l0_eq x.1 x.2.1 x.2.2.1 _ _)
theorem lf_laws_markEntryS : LoopsFn Try.prog C_laws_markEntryS O_laws_markEntryS 87 L_laws_markEntryS := LoopsFn.all (by kernel_rfl) (by decide) ⟨lo_laws_markEntryS_l0, trivial⟩
def out_laws_markEntryS (r : Int × (List DEntry)) : AV × Store := out1 (.one (.dat I)) [.data tEntry] (r.1, r.2, ())
theorem w_laws_markEntryS (x : FAr [.one (.all 0), .one (.dat I)] [.data tEntry]) : evBodyK Try.prog C_laws_markEntryS O_laws_markEntryS L_laws_markEntryS 87 (encAr [.one (.all 0), .one (.dat I)] [.data tEntry] x).1 (encAr [.one (.all 0), .one (.dat I)] [.data tEntry] x).2 (fun v s => some (v, s)) =
    laws_markEntrySK x.1 x.2.1 (fun r => some (out_laws_markEntryS r)) := by kernel_rfl
theorem sem_laws_markEntryS : ∀ x y, (fun x => laws_markEntryS x.1 x.2.1) x = some y → SemCall Try.prog 87 (encAr [.one (.all 0), .one (.dat I)] [.data tEntry] x).1 (encAr [.one (.all 0), .one (.dat I)] [.data tEntry] x).2 (out_laws_markEntryS y).1 (out_laws_markEntryS y).2 :=
  sem_of folP okP tabP (Oracle.of_ok Oracle.nil_ok) lf_laws_markEntryS fun x => (w_laws_markEntryS x).trans (laws_markEntryS_eq x.1 x.2.1 _)
noncomputable def c_laws_markEntryS : Con := Con.shape [.one (.all 0), .one (.dat I)] [.data tEntry] (fun x => laws_markEntryS x.1 x.2.1) out_laws_markEntryS
theorem ok_laws_markEntryS : ConOk Try.prog 87 c_laws_markEntryS := Con.shape_ok sem_laws_markEntryS

/-! 88 -/
def C_laws_markIntS : Cfg := { T := tab, hint := fun _ => { keepR := [0, 1, 4, 5, 9], res := [4], base := 1, keepL := [(0, [0, 1, 5])], keepX := [(0, [1]), (1, [0, 1, 5])] }, mode := fun _ => .borrow }
noncomputable def O_laws_markIntS : Oracle := Oracle.of []
def sh_laws_markIntS_l0 : List (Nat × S2) := [(0, .one (.all 0)), (1, .one (.dat I)), (5, .one (.dat I))]
def bs_laws_markIntS_l0 : List SB := [.data I]
noncomputable def lc_laws_markIntS_l0 : LCon := LCon.shape1 sh_laws_markIntS_l0 bs_laws_markIntS_l0 laws_markIntS_l0 (fun a => (.exit 0, encSt [(1, .one (.dat I))] [.data I] a))
noncomputable def L_laws_markIntS : Loops := Loops.of [(0, lc_laws_markIntS_l0)]
theorem r_laws_markIntS_l0 (x : FSt sh_laws_markIntS_l0 bs_laws_markIntS_l0) : roundK C_laws_markIntS.T (C_laws_markIntS.hint 88) C_laws_markIntS.mode O_laws_markIntS L_laws_markIntS 0 (lp Try.prog 88 0) (encSt sh_laws_markIntS_l0 bs_laws_markIntS_l0 x) (fun e s => some (e, s)) =
    laws_markIntS_l0K x.1 x.2.1 x.2.2.1 (fun y => some (Ex.normal, encSt sh_laws_markIntS_l0 bs_laws_markIntS_l0 y)) (fun a => some (Ex.exit 0, encSt [(1, .one (.dat I))] [.data I] a)) := by kernel_rfl
theorem lo_laws_markIntS_l0 : LConOk C_laws_markIntS.T (C_laws_markIntS.hint 88) C_laws_markIntS.mode O_laws_markIntS L_laws_markIntS 0 (lp Try.prog 88 0) lc_laws_markIntS_l0 :=
  LCon.shape1_ok (fun a => by simp) fun x => (r_laws_markIntS_l0 x).trans (laws_markIntS_l0_eq x.1 x.2.1 x.2.2.1 _ _)
theorem lf_laws_markIntS : LoopsFn Try.prog C_laws_markIntS O_laws_markIntS 88 L_laws_markIntS := LoopsFn.all (by kernel_rfl) (by decide) ⟨lo_laws_markIntS_l0, trivial⟩
def out_laws_markIntS (r : Int × (List Int)) : AV × Store := out1 (.one (.dat I)) [.data I] (r.1, r.2, ())
theorem w_laws_markIntS (x : FAr [.one (.all 0), .one (.dat I)] [.data I]) : evBodyK Try.prog C_laws_markIntS O_laws_markIntS L_laws_markIntS 88 (encAr [.one (.all 0), .one (.dat I)] [.data I] x).1 (encAr [.one (.all 0), .one (.dat I)] [.data I] x).2 (fun v s => some (v, s)) =
    laws_markIntSK x.1 x.2.1 (fun r => some (out_laws_markIntS r)) := by kernel_rfl
theorem sem_laws_markIntS : ∀ x y, (fun x => laws_markIntS x.1 x.2.1) x = some y → SemCall Try.prog 88 (encAr [.one (.all 0), .one (.dat I)] [.data I] x).1 (encAr [.one (.all 0), .one (.dat I)] [.data I] x).2 (out_laws_markIntS y).1 (out_laws_markIntS y).2 :=
  sem_of folP okP tabP (Oracle.of_ok Oracle.nil_ok) lf_laws_markIntS fun x => (w_laws_markIntS x).trans (laws_markIntS_eq x.1 x.2.1 _)
noncomputable def c_laws_markIntS : Con := Con.shape [.one (.all 0), .one (.dat I)] [.data I] (fun x => laws_markIntS x.1 x.2.1) out_laws_markIntS
theorem ok_laws_markIntS : ConOk Try.prog 88 c_laws_markIntS := Con.shape_ok sem_laws_markIntS

/-! 35 -/
def C_laws_markKernel : Cfg := { T := tab, hint := fun _ => { mu := [2], keepR := [1, 2, 4], res := [4], base := 2 }, mode := modeOf [(87, .sub), (88, .sub)] }
noncomputable def O_laws_markKernel : Oracle := Oracle.of [(87, c_laws_markEntryS), (88, c_laws_markIntS)]
noncomputable def L_laws_markKernel : Loops := Loops.of []
theorem lf_laws_markKernel : LoopsFn Try.prog C_laws_markKernel O_laws_markKernel 35 L_laws_markKernel := LoopsFn.nil' (by kernel_rfl)
def out_laws_markKernel (r : Int × (List DEntry) × (List Int)) : AV × Store := out1 (.one (.dat I)) [.data tEntry, .data I] (r.1, r.2.1, r.2.2, ())
theorem w_laws_markKernel (x : FAr [.agg [.dat I, .dat I, .dat I, .all 0, .all 1, .dat I], .one (.dat I)] [.data tEntry, .data I]) : evBodyK Try.prog C_laws_markKernel O_laws_markKernel L_laws_markKernel 35 (encAr [.agg [.dat I, .dat I, .dat I, .all 0, .all 1, .dat I], .one (.dat I)] [.data tEntry, .data I] x).1 (encAr [.agg [.dat I, .dat I, .dat I, .all 0, .all 1, .dat I], .one (.dat I)] [.data tEntry, .data I] x).2 (fun v s => some (v, s)) =
    laws_markKernelK x.1 x.2.1 x.2.2.1 x.2.2.2.1 x.2.2.2.2.1 x.2.2.2.2.2.1 x.2.2.2.2.2.2.1 (fun r => some (out_laws_markKernel r)) := by kernel_rfl
theorem sem_laws_markKernel : ∀ x y, (fun x => laws_markKernel x.1 x.2.1 x.2.2.1 x.2.2.2.1 x.2.2.2.2.1 x.2.2.2.2.2.1 x.2.2.2.2.2.2.1) x = some y → SemCall Try.prog 35 (encAr [.agg [.dat I, .dat I, .dat I, .all 0, .all 1, .dat I], .one (.dat I)] [.data tEntry, .data I] x).1 (encAr [.agg [.dat I, .dat I, .dat I, .all 0, .all 1, .dat I], .one (.dat I)] [.data tEntry, .data I] x).2 (out_laws_markKernel y).1 (out_laws_markKernel y).2 :=
  sem_of folP okP tabP (Oracle.of_ok (Oracle.cons_ok ok_laws_markEntryS (Oracle.cons_ok ok_laws_markIntS Oracle.nil_ok))) lf_laws_markKernel fun x => (w_laws_markKernel x).trans (laws_markKernel_eq x.1 x.2.1 x.2.2.1 x.2.2.2.1 x.2.2.2.2.1 x.2.2.2.2.2.1 x.2.2.2.2.2.2.1 _)
noncomputable def c_laws_markKernel : Con := Con.shape [.agg [.dat I, .dat I, .dat I, .all 0, .all 1, .dat I], .one (.dat I)] [.data tEntry, .data I] (fun x => laws_markKernel x.1 x.2.1 x.2.2.1 x.2.2.2.1 x.2.2.2.2.1 x.2.2.2.2.2.1 x.2.2.2.2.2.2.1) out_laws_markKernel
theorem ok_laws_markKernel : ConOk Try.prog 35 c_laws_markKernel := Con.shape_ok sem_laws_markKernel

/-! 89 -/
def C_laws_heldEntryS : Cfg := { T := tab, hint := fun _ => { keepR := [0, 1, 4, 5, 9, 19, 29, 39, 49, 58, 69], res := [4], keepL := [(0, [0, 1, 5])], keepX := [(0, [1]), (1, [0, 1, 5])] }, mode := fun _ => .borrow }
noncomputable def O_laws_heldEntryS : Oracle := Oracle.of []
def sh_laws_heldEntryS_l0 : List (Nat × S2) := [(0, .one (.dat (.sl tEntry))), (1, .one (.dat I)), (5, .one (.dat I))]
def bs_laws_heldEntryS_l0 : List SB := []
noncomputable def lc_laws_heldEntryS_l0 : LCon := LCon.shape sh_laws_heldEntryS_l0 bs_laws_heldEntryS_l0 laws_heldEntryS_l0 (fun a => (.exit 0, encSt [(1, .one (.dat I))] [] a)) (fun b => encSt [(4, .one (.dat I))] [] b)
noncomputable def L_laws_heldEntryS : Loops := Loops.of [(0, lc_laws_heldEntryS_l0)]
theorem r_laws_heldEntryS_l0 (x : FSt sh_laws_heldEntryS_l0 bs_laws_heldEntryS_l0) : roundK C_laws_heldEntryS.T (C_laws_heldEntryS.hint 89) C_laws_heldEntryS.mode O_laws_heldEntryS L_laws_heldEntryS 0 (lp Try.prog 89 0) (encSt sh_laws_heldEntryS_l0 bs_laws_heldEntryS_l0 x) (fun e s => some (e, s)) =
    laws_heldEntryS_l0K x.1 x.2.1 x.2.2.1 (fun y => some (Ex.normal, encSt sh_laws_heldEntryS_l0 bs_laws_heldEntryS_l0 y)) (fun a => some (Ex.exit 0, encSt [(1, .one (.dat I))] [] a)) (fun b => some (Ex.ret, encSt [(4, .one (.dat I))] [] b)) := by kernel_rfl
theorem lo_laws_heldEntryS_l0 : LConOk C_laws_heldEntryS.T (C_laws_heldEntryS.hint 89) C_laws_heldEntryS.mode O_laws_heldEntryS L_laws_heldEntryS 0 (lp Try.prog 89 0) lc_laws_heldEntryS_l0 :=
  LCon.shape_ok (fun a => by simp) fun x => (r_laws_heldEntryS_l0 x).trans (laws_heldEntryS_l0_eq x.1 x.2.1 x.2.2.1 _ _ _)
theorem lf_laws_heldEntryS : LoopsFn Try.prog C_laws_heldEntryS O_laws_heldEntryS 89 L_laws_heldEntryS := LoopsFn.all (by kernel_rfl) (by decide) ⟨lo_laws_heldEntryS_l0, trivial⟩
def out_laws_heldEntryS (r : Int) : AV × Store := out1 (.one (.dat I)) [] (r, ())
theorem w_laws_heldEntryS (x : FAr [.one (.dat (.sl tEntry)), .one (.dat I)] []) : evBodyK Try.prog C_laws_heldEntryS O_laws_heldEntryS L_laws_heldEntryS 89 (encAr [.one (.dat (.sl tEntry)), .one (.dat I)] [] x).1 (encAr [.one (.dat (.sl tEntry)), .one (.dat I)] [] x).2 (fun v s => some (v, s)) =
    laws_heldEntrySK x.1 x.2.1 (fun r => some (out_laws_heldEntryS r)) := by kernel_rfl
theorem sem_laws_heldEntryS : ∀ x y, (fun x => laws_heldEntryS x.1 x.2.1) x = some y → SemCall Try.prog 89 (encAr [.one (.dat (.sl tEntry)), .one (.dat I)] [] x).1 (encAr [.one (.dat (.sl tEntry)), .one (.dat I)] [] x).2 (out_laws_heldEntryS y).1 (out_laws_heldEntryS y).2 :=
  sem_of folP okP tabP (Oracle.of_ok Oracle.nil_ok) lf_laws_heldEntryS fun x => (w_laws_heldEntryS x).trans (laws_heldEntryS_eq x.1 x.2.1 _)
noncomputable def c_laws_heldEntryS : Con := Con.shape [.one (.dat (.sl tEntry)), .one (.dat I)] [] (fun x => laws_heldEntryS x.1 x.2.1) out_laws_heldEntryS
theorem ok_laws_heldEntryS : ConOk Try.prog 89 c_laws_heldEntryS := Con.shape_ok sem_laws_heldEntryS

/-! 90 -/
def C_laws_heldIntS : Cfg := { T := tab, hint := fun _ => { keepR := [0, 1, 4, 5, 9, 17], res := [4], keepL := [(0, [0, 1, 5])], keepX := [(0, [1]), (1, [0, 1, 5])] }, mode := fun _ => .borrow }
noncomputable def O_laws_heldIntS : Oracle := Oracle.of []
def sh_laws_heldIntS_l0 : List (Nat × S2) := [(0, .one (.dat (.sl I))), (1, .one (.dat I)), (5, .one (.dat I))]
def bs_laws_heldIntS_l0 : List SB := []
noncomputable def lc_laws_heldIntS_l0 : LCon := LCon.shape sh_laws_heldIntS_l0 bs_laws_heldIntS_l0 laws_heldIntS_l0 (fun a => (.exit 0, encSt [(1, .one (.dat I))] [] a)) (fun b => encSt [(4, .one (.dat I))] [] b)
noncomputable def L_laws_heldIntS : Loops := Loops.of [(0, lc_laws_heldIntS_l0)]
theorem r_laws_heldIntS_l0 (x : FSt sh_laws_heldIntS_l0 bs_laws_heldIntS_l0) : roundK C_laws_heldIntS.T (C_laws_heldIntS.hint 90) C_laws_heldIntS.mode O_laws_heldIntS L_laws_heldIntS 0 (lp Try.prog 90 0) (encSt sh_laws_heldIntS_l0 bs_laws_heldIntS_l0 x) (fun e s => some (e, s)) =
    laws_heldIntS_l0K x.1 x.2.1 x.2.2.1 (fun y => some (Ex.normal, encSt sh_laws_heldIntS_l0 bs_laws_heldIntS_l0 y)) (fun a => some (Ex.exit 0, encSt [(1, .one (.dat I))] [] a)) (fun b => some (Ex.ret, encSt [(4, .one (.dat I))] [] b)) := by kernel_rfl
theorem lo_laws_heldIntS_l0 : LConOk C_laws_heldIntS.T (C_laws_heldIntS.hint 90) C_laws_heldIntS.mode O_laws_heldIntS L_laws_heldIntS 0 (lp Try.prog 90 0) lc_laws_heldIntS_l0 :=
  LCon.shape_ok (fun a => by simp) fun x => (r_laws_heldIntS_l0 x).trans (laws_heldIntS_l0_eq x.1 x.2.1 x.2.2.1 _ _ _)
theorem lf_laws_heldIntS : LoopsFn Try.prog C_laws_heldIntS O_laws_heldIntS 90 L_laws_heldIntS := LoopsFn.all (by kernel_rfl) (by decide) ⟨lo_laws_heldIntS_l0, trivial⟩
def out_laws_heldIntS (r : Int) : AV × Store := out1 (.one (.dat I)) [] (r, ())
theorem w_laws_heldIntS (x : FAr [.one (.dat (.sl I)), .one (.dat I)] []) : evBodyK Try.prog C_laws_heldIntS O_laws_heldIntS L_laws_heldIntS 90 (encAr [.one (.dat (.sl I)), .one (.dat I)] [] x).1 (encAr [.one (.dat (.sl I)), .one (.dat I)] [] x).2 (fun v s => some (v, s)) =
    laws_heldIntSK x.1 x.2.1 (fun r => some (out_laws_heldIntS r)) := by kernel_rfl
theorem sem_laws_heldIntS : ∀ x y, (fun x => laws_heldIntS x.1 x.2.1) x = some y → SemCall Try.prog 90 (encAr [.one (.dat (.sl I)), .one (.dat I)] [] x).1 (encAr [.one (.dat (.sl I)), .one (.dat I)] [] x).2 (out_laws_heldIntS y).1 (out_laws_heldIntS y).2 :=
  sem_of folP okP tabP (Oracle.of_ok Oracle.nil_ok) lf_laws_heldIntS fun x => (w_laws_heldIntS x).trans (laws_heldIntS_eq x.1 x.2.1 _)
noncomputable def c_laws_heldIntS : Con := Con.shape [.one (.dat (.sl I)), .one (.dat I)] [] (fun x => laws_heldIntS x.1 x.2.1) out_laws_heldIntS
theorem ok_laws_heldIntS : ConOk Try.prog 90 c_laws_heldIntS := Con.shape_ok sem_laws_heldIntS

/-! 36 -/
def C_laws_heldKernel : Cfg := { T := tab, hint := fun _ => { keepR := [1, 2, 4, 10, 16], res := [4] }, mode := fun _ => .borrow }
noncomputable def O_laws_heldKernel : Oracle := Oracle.of [(89, c_laws_heldEntryS), (90, c_laws_heldIntS)]
noncomputable def L_laws_heldKernel : Loops := Loops.of []
theorem lf_laws_heldKernel : LoopsFn Try.prog C_laws_heldKernel O_laws_heldKernel 36 L_laws_heldKernel := LoopsFn.nil' (by kernel_rfl)
def out_laws_heldKernel (r : Int) : AV × Store := out1 (.one (.dat I)) [] (r, ())
theorem w_laws_heldKernel (x : FAr [.one (.dat tKernel), .one (.dat I)] []) : evBodyK Try.prog C_laws_heldKernel O_laws_heldKernel L_laws_heldKernel 36 (encAr [.one (.dat tKernel), .one (.dat I)] [] x).1 (encAr [.one (.dat tKernel), .one (.dat I)] [] x).2 (fun v s => some (v, s)) =
    laws_heldKernelK x.1 x.2.1 (fun r => some (out_laws_heldKernel r)) := by kernel_rfl
theorem sem_laws_heldKernel : ∀ x y, (fun x => laws_heldKernel x.1 x.2.1) x = some y → SemCall Try.prog 36 (encAr [.one (.dat tKernel), .one (.dat I)] [] x).1 (encAr [.one (.dat tKernel), .one (.dat I)] [] x).2 (out_laws_heldKernel y).1 (out_laws_heldKernel y).2 :=
  sem_of folP okP tabP (Oracle.of_ok (Oracle.cons_ok ok_laws_heldEntryS (Oracle.cons_ok ok_laws_heldIntS Oracle.nil_ok))) lf_laws_heldKernel fun x => (w_laws_heldKernel x).trans (laws_heldKernel_eq x.1 x.2.1 _)
noncomputable def c_laws_heldKernel : Con := Con.shape [.one (.dat tKernel), .one (.dat I)] [] (fun x => laws_heldKernel x.1 x.2.1) out_laws_heldKernel
theorem ok_laws_heldKernel : ConOk Try.prog 36 c_laws_heldKernel := Con.shape_ok sem_laws_heldKernel

/-! 5 -/
def C_laws_FnExactNewKernel : Cfg := { T := tab, hint := fun _ => { mu := [5, 6, 9, 15], keepR := [0, 1, 4, 5, 6, 7, 8, 9, 19, 27, 30, 37, 42, 45], res := [4] }, mode := modeOf [(35, .sub)] }
noncomputable def O_laws_FnExactNewKernel : Oracle := Oracle.of [(32, c_spec_NewKernel), (33, c_impl_NewKernel), (34, c_laws_eqKernel), (35, c_laws_markKernel), (36, c_laws_heldKernel)]
noncomputable def L_laws_FnExactNewKernel : Loops := Loops.of []
theorem lf_laws_FnExactNewKernel : LoopsFn Try.prog C_laws_FnExactNewKernel O_laws_FnExactNewKernel 5 L_laws_FnExactNewKernel := LoopsFn.nil' (by kernel_rfl)
def out_laws_FnExactNewKernel (r : Bool) : AV × Store := out1 (.one (.dat .bool)) [] (r, ())
theorem w_laws_FnExactNewKernel (x : FAr [.one (.dat I), .one (.dat I)] []) : evBodyK Try.prog C_laws_FnExactNewKernel O_laws_FnExactNewKernel L_laws_FnExactNewKernel 5 (encAr [.one (.dat I), .one (.dat I)] [] x).1 (encAr [.one (.dat I), .one (.dat I)] [] x).2 (fun v s => some (v, s)) =
    laws_FnExactNewKernelK x.1 x.2.1 (fun r => some (out_laws_FnExactNewKernel r)) := by kernel_rfl
theorem sem_laws_FnExactNewKernel : ∀ x y, (fun x => laws_FnExactNewKernel x.1 x.2.1) x = some y → SemCall Try.prog 5 (encAr [.one (.dat I), .one (.dat I)] [] x).1 (encAr [.one (.dat I), .one (.dat I)] [] x).2 (out_laws_FnExactNewKernel y).1 (out_laws_FnExactNewKernel y).2 :=
  sem_of folP okP tabP (Oracle.of_ok (Oracle.cons_ok ok_spec_NewKernel (Oracle.cons_ok ok_impl_NewKernel (Oracle.cons_ok ok_laws_eqKernel (Oracle.cons_ok ok_laws_markKernel (Oracle.cons_ok ok_laws_heldKernel Oracle.nil_ok)))))) lf_laws_FnExactNewKernel fun x => (w_laws_FnExactNewKernel x).trans (laws_FnExactNewKernel_eq x.1 x.2.1 _)
noncomputable def c_laws_FnExactNewKernel : Con := Con.shape [.one (.dat I), .one (.dat I)] [] (fun x => laws_FnExactNewKernel x.1 x.2.1) out_laws_FnExactNewKernel
theorem ok_laws_FnExactNewKernel : ConOk Try.prog 5 c_laws_FnExactNewKernel := Con.shape_ok sem_laws_FnExactNewKernel

/-! 48 -/
def C_spec_DrawSysDelete : Cfg := { T := tab, hint := fun _ => { mu := [2, 5, 7], keepR := [0, 2, 3, 4, 5], res := [2, 3], order := [(3, [(1, .read), (2, .read), (0, .aside [1, 2, 3]), (3, .forced), (4, .forced), (5, .forced)])] }, mode := modeOf [(52, .sub), (53, .sub)] }
noncomputable def O_spec_DrawSysDelete : Oracle := Oracle.of [(51, c_spec_l20Open), (52, c_spec_l20Kernel), (53, c_spec_l20Site)]
noncomputable def L_spec_DrawSysDelete : Loops := Loops.of []
theorem lf_spec_DrawSysDelete : LoopsFn Try.prog C_spec_DrawSysDelete O_spec_DrawSysDelete 48 L_spec_DrawSysDelete := LoopsFn.nil' (by kernel_rfl)
def out_spec_DrawSysDelete (r : Int × Int × Int × Int × Int × (List DEntry) × (List Int)) : AV × Store := outT [.agg [.dat I, .dat I, .dat I, .all 0, .all 1, .dat I], .one (.dat I)] [.data tEntry, .data I] (r.1, r.2.1, r.2.2.1, r.2.2.2.1, r.2.2.2.2.1, r.2.2.2.2.2.1, r.2.2.2.2.2.2, ())
theorem w_spec_DrawSysDelete (x : FAr [.one (.dat (.sl (.int .u8)))] []) : evBodyK Try.prog C_spec_DrawSysDelete O_spec_DrawSysDelete L_spec_DrawSysDelete 48 (encAr [.one (.dat (.sl (.int .u8)))] [] x).1 (encAr [.one (.dat (.sl (.int .u8)))] [] x).2 (fun v s => some (v, s)) =
    spec_DrawSysDeleteK x.1 (fun r => some (out_spec_DrawSysDelete r)) := by kernel_rfl
theorem sem_spec_DrawSysDelete : ∀ x y, (fun x => spec_DrawSysDelete x.1) x = some y → SemCall Try.prog 48 (encAr [.one (.dat (.sl (.int .u8)))] [] x).1 (encAr [.one (.dat (.sl (.int .u8)))] [] x).2 (out_spec_DrawSysDelete y).1 (out_spec_DrawSysDelete y).2 :=
  sem_of folP okP tabP (Oracle.of_ok (Oracle.cons_ok ok_spec_l20Open (Oracle.cons_ok ok_spec_l20Kernel (Oracle.cons_ok ok_spec_l20Site Oracle.nil_ok)))) lf_spec_DrawSysDelete fun x => (w_spec_DrawSysDelete x).trans (spec_DrawSysDelete_eq x.1 _)
noncomputable def c_spec_DrawSysDelete : Con := Con.shape [.one (.dat (.sl (.int .u8)))] [] (fun x => spec_DrawSysDelete x.1) out_spec_DrawSysDelete
theorem ok_spec_DrawSysDelete : ConOk Try.prog 48 c_spec_DrawSysDelete := Con.shape_ok sem_spec_DrawSysDelete

/-! 37 -/
def C_spec_DrawSysRevoke : Cfg := { T := tab, hint := fun _ => { mu := [2, 5], keepR := [0, 2, 3], res := [2, 3] }, mode := fun _ => .borrow }
noncomputable def O_spec_DrawSysRevoke : Oracle := Oracle.of [(48, c_spec_DrawSysDelete)]
noncomputable def L_spec_DrawSysRevoke : Loops := Loops.of []
theorem lf_spec_DrawSysRevoke : LoopsFn Try.prog C_spec_DrawSysRevoke O_spec_DrawSysRevoke 37 L_spec_DrawSysRevoke := LoopsFn.nil' (by kernel_rfl)
def out_spec_DrawSysRevoke (r : Int × Int × Int × Int × Int × (List DEntry) × (List Int)) : AV × Store := outT [.agg [.dat I, .dat I, .dat I, .all 0, .all 1, .dat I], .one (.dat I)] [.data tEntry, .data I] (r.1, r.2.1, r.2.2.1, r.2.2.2.1, r.2.2.2.2.1, r.2.2.2.2.2.1, r.2.2.2.2.2.2, ())
theorem w_spec_DrawSysRevoke (x : FAr [.one (.dat (.sl (.int .u8)))] []) : evBodyK Try.prog C_spec_DrawSysRevoke O_spec_DrawSysRevoke L_spec_DrawSysRevoke 37 (encAr [.one (.dat (.sl (.int .u8)))] [] x).1 (encAr [.one (.dat (.sl (.int .u8)))] [] x).2 (fun v s => some (v, s)) =
    spec_DrawSysRevokeK x.1 (fun r => some (out_spec_DrawSysRevoke r)) := by kernel_rfl
theorem sem_spec_DrawSysRevoke : ∀ x y, (fun x => spec_DrawSysRevoke x.1) x = some y → SemCall Try.prog 37 (encAr [.one (.dat (.sl (.int .u8)))] [] x).1 (encAr [.one (.dat (.sl (.int .u8)))] [] x).2 (out_spec_DrawSysRevoke y).1 (out_spec_DrawSysRevoke y).2 :=
  sem_of folP okP tabP (Oracle.of_ok (Oracle.cons_ok ok_spec_DrawSysDelete Oracle.nil_ok)) lf_spec_DrawSysRevoke fun x => (w_spec_DrawSysRevoke x).trans (spec_DrawSysRevoke_eq x.1 _)
noncomputable def c_spec_DrawSysRevoke : Con := Con.shape [.one (.dat (.sl (.int .u8)))] [] (fun x => spec_DrawSysRevoke x.1) out_spec_DrawSysRevoke
theorem ok_spec_DrawSysRevoke : ConOk Try.prog 37 c_spec_DrawSysRevoke := Con.shape_ok sem_spec_DrawSysRevoke

/-! 104 -/
def C_impl_descendants : Cfg := { T := tab, hint := fun _ => { mu := [6, 10, 52], keepR := [0, 1, 4, 5, 6, 7, 19, 45], res := [4], keepL := [(0, [0, 5, 6, 7])], keepX := [(0, [6]), (1, [0, 5, 6, 7])] }, mode := modeOf [(132, .sub)] }
noncomputable def O_impl_descendants : Oracle := Oracle.of [(132, c_slices_Clip_int)]
def sh_impl_descendants_l0 : List (Nat × S2) := [(0, .one (.dat (.sl tEntry))), (5, .one (.all 0)), (6, .one (.all 1)), (7, .one (.dat I))]
def bs_impl_descendants_l0 : List SB := [.data .bool, .data I]
noncomputable def lc_impl_descendants_l0 : LCon := LCon.shape1 sh_impl_descendants_l0 bs_impl_descendants_l0 impl_descendants_l0 (fun a => (.exit 0, encSt [(6, .one (.all 0))] [.data I] a))
noncomputable def L_impl_descendants : Loops := Loops.of [(0, lc_impl_descendants_l0)]
theorem r_impl_descendants_l0 (x : FSt sh_impl_descendants_l0 bs_impl_descendants_l0) : roundK C_impl_descendants.T (C_impl_descendants.hint 104) C_impl_descendants.mode O_impl_descendants L_impl_descendants 0 (lp Try.prog 104 0) (encSt sh_impl_descendants_l0 bs_impl_descendants_l0 x) (fun e s => some (e, s)) =
    impl_descendants_l0K x.1 x.2.1 x.2.2.1 x.2.2.2.1 (fun y => some (Ex.normal, encSt sh_impl_descendants_l0 bs_impl_descendants_l0 y)) (fun a => some (Ex.exit 0, encSt [(6, .one (.all 0))] [.data I] a)) := by kernel_rfl
theorem lo_impl_descendants_l0 : LConOk C_impl_descendants.T (C_impl_descendants.hint 104) C_impl_descendants.mode O_impl_descendants L_impl_descendants 0 (lp Try.prog 104 0) lc_impl_descendants_l0 :=
  LCon.shape1_ok (fun a => by simp) fun x => (r_impl_descendants_l0 x).trans (impl_descendants_l0_eq x.1 x.2.1 x.2.2.1 x.2.2.2.1 _ _)
theorem lf_impl_descendants : LoopsFn Try.prog C_impl_descendants O_impl_descendants 104 L_impl_descendants := LoopsFn.all (by kernel_rfl) (by decide) ⟨lo_impl_descendants_l0, trivial⟩
def out_impl_descendants (r : (List Int)) : AV × Store := out1 (.one (.all 0)) [.data I] (r, ())
theorem w_impl_descendants (x : FAr [.one (.dat (.sl tEntry)), .one (.dat I)] []) : evBodyK Try.prog C_impl_descendants O_impl_descendants L_impl_descendants 104 (encAr [.one (.dat (.sl tEntry)), .one (.dat I)] [] x).1 (encAr [.one (.dat (.sl tEntry)), .one (.dat I)] [] x).2 (fun v s => some (v, s)) =
    impl_descendantsK x.1 x.2.1 (fun r => some (out_impl_descendants r)) := by kernel_rfl
theorem sem_impl_descendants : ∀ x y, (fun x => impl_descendants x.1 x.2.1) x = some y → SemCall Try.prog 104 (encAr [.one (.dat (.sl tEntry)), .one (.dat I)] [] x).1 (encAr [.one (.dat (.sl tEntry)), .one (.dat I)] [] x).2 (out_impl_descendants y).1 (out_impl_descendants y).2 :=
  sem_of folP okP tabP (Oracle.of_ok (Oracle.cons_ok ok_slices_Clip_int Oracle.nil_ok)) lf_impl_descendants fun x => (w_impl_descendants x).trans (impl_descendants_eq x.1 x.2.1 _)
noncomputable def c_impl_descendants : Con := Con.shape [.one (.dat (.sl tEntry)), .one (.dat I)] [] (fun x => impl_descendants x.1 x.2.1) out_impl_descendants
theorem ok_impl_descendants : ConOk Try.prog 104 c_impl_descendants := Con.shape_ok sem_impl_descendants

/-! 127 -/
def C_impl_removed : Cfg := { T := tab, hint := fun _ => { mu := [9], keepR := [0, 1, 4, 5, 7, 10, 11, 12, 13], res := [4], keepL := [(0, [5, 10, 11, 12])], keepX := [(0, [5]), (1, [5, 10, 11, 12])] }, mode := fun _ => .borrow }
noncomputable def O_impl_removed : Oracle := Oracle.of [(80, c_impl_clone_Entry)]
def sh_impl_removed_l0 : List (Nat × S2) := [(5, .one (.all 0)), (10, .one (.dat (.sl I))), (11, .one (.dat I)), (12, .one (.dat I))]
def bs_impl_removed_l0 : List SB := [.data tEntry]
noncomputable def lc_impl_removed_l0 : LCon := LCon.shape1 sh_impl_removed_l0 bs_impl_removed_l0 impl_removed_l0 (fun a => (.exit 0, encSt [(5, .one (.all 0))] [.data tEntry] a))
noncomputable def L_impl_removed : Loops := Loops.of [(0, lc_impl_removed_l0)]
theorem r_impl_removed_l0 (x : FSt sh_impl_removed_l0 bs_impl_removed_l0) : roundK C_impl_removed.T (C_impl_removed.hint 127) C_impl_removed.mode O_impl_removed L_impl_removed 0 (lp Try.prog 127 0) (encSt sh_impl_removed_l0 bs_impl_removed_l0 x) (fun e s => some (e, s)) =
    impl_removed_l0K x.1 x.2.1 x.2.2.1 x.2.2.2.1 (fun y => some (Ex.normal, encSt sh_impl_removed_l0 bs_impl_removed_l0 y)) (fun a => some (Ex.exit 0, encSt [(5, .one (.all 0))] [.data tEntry] a)) := by kernel_rfl
theorem lo_impl_removed_l0 : LConOk C_impl_removed.T (C_impl_removed.hint 127) C_impl_removed.mode O_impl_removed L_impl_removed 0 (lp Try.prog 127 0) lc_impl_removed_l0 :=
  LCon.shape1_ok (fun a => by simp) fun x => (r_impl_removed_l0 x).trans (impl_removed_l0_eq x.1 x.2.1 x.2.2.1 x.2.2.2.1 _ _)
theorem lf_impl_removed : LoopsFn Try.prog C_impl_removed O_impl_removed 127 L_impl_removed := LoopsFn.all (by kernel_rfl) (by decide) ⟨lo_impl_removed_l0, trivial⟩
def out_impl_removed (r : (List DEntry)) : AV × Store := out1 (.one (.all 0)) [.data tEntry] (r, ())
theorem w_impl_removed (x : FAr [.one (.dat (.sl tEntry)), .one (.dat (.sl I))] []) : evBodyK Try.prog C_impl_removed O_impl_removed L_impl_removed 127 (encAr [.one (.dat (.sl tEntry)), .one (.dat (.sl I))] [] x).1 (encAr [.one (.dat (.sl tEntry)), .one (.dat (.sl I))] [] x).2 (fun v s => some (v, s)) =
    impl_removedK x.1 x.2.1 (fun r => some (out_impl_removed r)) := by kernel_rfl
theorem sem_impl_removed : ∀ x y, (fun x => impl_removed x.1 x.2.1) x = some y → SemCall Try.prog 127 (encAr [.one (.dat (.sl tEntry)), .one (.dat (.sl I))] [] x).1 (encAr [.one (.dat (.sl tEntry)), .one (.dat (.sl I))] [] x).2 (out_impl_removed y).1 (out_impl_removed y).2 :=
  sem_of folP okP tabP (Oracle.of_ok (Oracle.cons_ok ok_impl_clone_Entry Oracle.nil_ok)) lf_impl_removed fun x => (w_impl_removed x).trans (impl_removed_eq x.1 x.2.1 _)
noncomputable def c_impl_removed : Con := Con.shape [.one (.dat (.sl tEntry)), .one (.dat (.sl I))] [] (fun x => impl_removed x.1 x.2.1) out_impl_removed
theorem ok_impl_removed : ConOk Try.prog 127 c_impl_removed := Con.shape_ok sem_impl_removed

/-! 92 -/
def C_impl_RevokeCap : Cfg := { T := tab, hint := fun _ => { mu := [4, 13], keepR := [0, 1, 4, 8], res := [4] }, mode := fun _ => .borrow }
noncomputable def O_impl_RevokeCap : Oracle := Oracle.of [(103, c_impl_alive), (104, c_impl_descendants), (127, c_impl_removed)]
noncomputable def L_impl_RevokeCap : Loops := Loops.of []
theorem lf_impl_RevokeCap : LoopsFn Try.prog C_impl_RevokeCap O_impl_RevokeCap 92 L_impl_RevokeCap := LoopsFn.nil' (by kernel_rfl)
def out_impl_RevokeCap (r : (List DEntry)) : AV × Store := out1 (.one (.all 0)) [.data tEntry] (r, ())
theorem w_impl_RevokeCap (x : FAr [.one (.dat (.sl tEntry)), .one (.dat I)] []) : evBodyK Try.prog C_impl_RevokeCap O_impl_RevokeCap L_impl_RevokeCap 92 (encAr [.one (.dat (.sl tEntry)), .one (.dat I)] [] x).1 (encAr [.one (.dat (.sl tEntry)), .one (.dat I)] [] x).2 (fun v s => some (v, s)) =
    impl_RevokeCapK x.1 x.2.1 (fun r => some (out_impl_RevokeCap r)) := by kernel_rfl
theorem sem_impl_RevokeCap : ∀ x y, (fun x => impl_RevokeCap x.1 x.2.1) x = some y → SemCall Try.prog 92 (encAr [.one (.dat (.sl tEntry)), .one (.dat I)] [] x).1 (encAr [.one (.dat (.sl tEntry)), .one (.dat I)] [] x).2 (out_impl_RevokeCap y).1 (out_impl_RevokeCap y).2 :=
  sem_of folP okP tabP (Oracle.of_ok (Oracle.cons_ok ok_impl_alive (Oracle.cons_ok ok_impl_descendants (Oracle.cons_ok ok_impl_removed Oracle.nil_ok)))) lf_impl_RevokeCap fun x => (w_impl_RevokeCap x).trans (impl_RevokeCap_eq x.1 x.2.1 _)
noncomputable def c_impl_RevokeCap : Con := Con.shape [.one (.dat (.sl tEntry)), .one (.dat I)] [] (fun x => impl_RevokeCap x.1 x.2.1) out_impl_RevokeCap
theorem ok_impl_RevokeCap : ConOk Try.prog 92 c_impl_RevokeCap := Con.shape_ok sem_impl_RevokeCap

/-! 126 -/
def C_impl_Kernel_clear : Cfg := { T := tab, hint := fun _ => { keepR := [0, 2, 3, 7, 8, 9, 10, 25], res := [], base := 4, keepL := [(0, [0, 7, 8, 9])], keepX := [(0, []), (1, [0, 7, 8, 9])] }, mode := fun _ => .borrow }
noncomputable def O_impl_Kernel_clear : Oracle := Oracle.of []
def sh_impl_Kernel_clear_l0 : List (Nat × S2) := [(0, .one (.ptr 3 0 0)), (7, .one (.all 2)), (8, .one (.dat I)), (9, .one (.dat I))]
def bs_impl_Kernel_clear_l0 : List SB := [.var [.dat I, .dat I, .dat I, .e0 tEntry, .e0 I, .dat I], .data tEntry, .data I, .var [.dat I, .dat I, .dat I, .dat (.sl tEntry), .all 2, .dat I]]
noncomputable def lc_impl_Kernel_clear_l0 : LCon := LCon.shape1 sh_impl_Kernel_clear_l0 bs_impl_Kernel_clear_l0 impl_Kernel_clear_l0 (fun a => (.exit 0, encSt [] [.var [.dat I, .dat I, .dat I, .e0 tEntry, .e0 I, .dat I], .data tEntry, .data I, .var [.dat I, .dat I, .dat I, .dat (.sl tEntry), .all 2, .dat I]] a))
noncomputable def L_impl_Kernel_clear : Loops := Loops.of [(0, lc_impl_Kernel_clear_l0)]
theorem r_impl_Kernel_clear_l0 (x : FSt sh_impl_Kernel_clear_l0 bs_impl_Kernel_clear_l0) : roundK C_impl_Kernel_clear.T (C_impl_Kernel_clear.hint 126) C_impl_Kernel_clear.mode O_impl_Kernel_clear L_impl_Kernel_clear 0 (lp Try.prog 126 0) (encSt sh_impl_Kernel_clear_l0 bs_impl_Kernel_clear_l0 x) (fun e s => some (e, s)) =
    impl_Kernel_clear_l0K x.1 x.2.1 x.2.2.1 x.2.2.2.1 x.2.2.2.2.1 x.2.2.2.2.2.1 x.2.2.2.2.2.2.1 x.2.2.2.2.2.2.2.1 x.2.2.2.2.2.2.2.2.1 x.2.2.2.2.2.2.2.2.2.1 x.2.2.2.2.2.2.2.2.2.2.1 x.2.2.2.2.2.2.2.2.2.2.2.1 x.2.2.2.2.2.2.2.2.2.2.2.2.1 (fun y => some (Ex.normal, encSt sh_impl_Kernel_clear_l0 bs_impl_Kernel_clear_l0 y)) (fun a => some (Ex.exit 0, encSt [] [.var [.dat I, .dat I, .dat I, .e0 tEntry, .e0 I, .dat I], .data tEntry, .data I, .var [.dat I, .dat I, .dat I, .dat (.sl tEntry), .all 2, .dat I]] a)) := by kernel_rfl
theorem lo_impl_Kernel_clear_l0 : LConOk C_impl_Kernel_clear.T (C_impl_Kernel_clear.hint 126) C_impl_Kernel_clear.mode O_impl_Kernel_clear L_impl_Kernel_clear 0 (lp Try.prog 126 0) lc_impl_Kernel_clear_l0 :=
  LCon.shape1_ok (fun a => by simp) fun x => (r_impl_Kernel_clear_l0 x).trans (impl_Kernel_clear_l0_eq x.1 x.2.1 x.2.2.1 x.2.2.2.1 x.2.2.2.2.1 x.2.2.2.2.2.1 x.2.2.2.2.2.2.1 x.2.2.2.2.2.2.2.1 x.2.2.2.2.2.2.2.2.1 x.2.2.2.2.2.2.2.2.2.1 x.2.2.2.2.2.2.2.2.2.2.1 x.2.2.2.2.2.2.2.2.2.2.2.1 x.2.2.2.2.2.2.2.2.2.2.2.2.1 _ _)
theorem lf_impl_Kernel_clear : LoopsFn Try.prog C_impl_Kernel_clear O_impl_Kernel_clear 126 L_impl_Kernel_clear := LoopsFn.all (by kernel_rfl) (by decide) ⟨lo_impl_Kernel_clear_l0, trivial⟩
def out_impl_Kernel_clear (r : Int × Int × Int × Int × (List DEntry) × (List Int) × Int × Int × Int × (List DEntry) × Int) : AV × Store := outT [] [.var [.dat I, .dat I, .dat I, .e0 tEntry, .e0 I, .dat I], .data tEntry, .data I, .var [.dat I, .dat I, .dat I, .dat (.sl tEntry), .all 2, .dat I]] (r.1, r.2.1, r.2.2.1, r.2.2.2.1, r.2.2.2.2.1, r.2.2.2.2.2.1, r.2.2.2.2.2.2.1, r.2.2.2.2.2.2.2.1, r.2.2.2.2.2.2.2.2.1, r.2.2.2.2.2.2.2.2.2.1, r.2.2.2.2.2.2.2.2.2.2, ())
theorem w_impl_Kernel_clear (x : FAr [.one (.ptr 3 0 0)] [.var [.dat I, .dat I, .dat I, .e0 tEntry, .e0 I, .dat I], .data tEntry, .data I, .var [.dat I, .dat I, .dat I, .dat (.sl tEntry), .all 2, .dat I]]) : evBodyK Try.prog C_impl_Kernel_clear O_impl_Kernel_clear L_impl_Kernel_clear 126 (encAr [.one (.ptr 3 0 0)] [.var [.dat I, .dat I, .dat I, .e0 tEntry, .e0 I, .dat I], .data tEntry, .data I, .var [.dat I, .dat I, .dat I, .dat (.sl tEntry), .all 2, .dat I]] x).1 (encAr [.one (.ptr 3 0 0)] [.var [.dat I, .dat I, .dat I, .e0 tEntry, .e0 I, .dat I], .data tEntry, .data I, .var [.dat I, .dat I, .dat I, .dat (.sl tEntry), .all 2, .dat I]] x).2 (fun v s => some (v, s)) =
    impl_Kernel_clearK x.1 x.2.1 x.2.2.1 x.2.2.2.1 x.2.2.2.2.1 x.2.2.2.2.2.1 x.2.2.2.2.2.2.1 x.2.2.2.2.2.2.2.1 x.2.2.2.2.2.2.2.2.1 x.2.2.2.2.2.2.2.2.2.1 x.2.2.2.2.2.2.2.2.2.2.1 (fun r => some (out_impl_Kernel_clear r)) := by kernel_rfl
theorem sem_impl_Kernel_clear : ∀ x y, (fun x => impl_Kernel_clear x.1 x.2.1 x.2.2.1 x.2.2.2.1 x.2.2.2.2.1 x.2.2.2.2.2.1 x.2.2.2.2.2.2.1 x.2.2.2.2.2.2.2.1 x.2.2.2.2.2.2.2.2.1 x.2.2.2.2.2.2.2.2.2.1 x.2.2.2.2.2.2.2.2.2.2.1) x = some y → SemCall Try.prog 126 (encAr [.one (.ptr 3 0 0)] [.var [.dat I, .dat I, .dat I, .e0 tEntry, .e0 I, .dat I], .data tEntry, .data I, .var [.dat I, .dat I, .dat I, .dat (.sl tEntry), .all 2, .dat I]] x).1 (encAr [.one (.ptr 3 0 0)] [.var [.dat I, .dat I, .dat I, .e0 tEntry, .e0 I, .dat I], .data tEntry, .data I, .var [.dat I, .dat I, .dat I, .dat (.sl tEntry), .all 2, .dat I]] x).2 (out_impl_Kernel_clear y).1 (out_impl_Kernel_clear y).2 :=
  sem_of folP okP tabP (Oracle.of_ok Oracle.nil_ok) lf_impl_Kernel_clear fun x => (w_impl_Kernel_clear x).trans (impl_Kernel_clear_eq x.1 x.2.1 x.2.2.1 x.2.2.2.1 x.2.2.2.2.1 x.2.2.2.2.2.1 x.2.2.2.2.2.2.1 x.2.2.2.2.2.2.2.1 x.2.2.2.2.2.2.2.2.1 x.2.2.2.2.2.2.2.2.2.1 x.2.2.2.2.2.2.2.2.2.2.1 _)
noncomputable def c_impl_Kernel_clear : Con := Con.shape [.one (.ptr 3 0 0)] [.var [.dat I, .dat I, .dat I, .e0 tEntry, .e0 I, .dat I], .data tEntry, .data I, .var [.dat I, .dat I, .dat I, .dat (.sl tEntry), .all 2, .dat I]] (fun x => impl_Kernel_clear x.1 x.2.1 x.2.2.1 x.2.2.2.1 x.2.2.2.2.1 x.2.2.2.2.2.1 x.2.2.2.2.2.2.1 x.2.2.2.2.2.2.2.1 x.2.2.2.2.2.2.2.2.1 x.2.2.2.2.2.2.2.2.2.1 x.2.2.2.2.2.2.2.2.2.2.1) out_impl_Kernel_clear
theorem ok_impl_Kernel_clear : ConOk Try.prog 126 c_impl_Kernel_clear := Con.shape_ok sem_impl_Kernel_clear

/-! 126 -/
def C_impl_Kernel_clear_v2 : Cfg := { T := tab, hint := fun _ => { keepR := [0, 2, 3, 7, 8, 9, 10, 25], res := [], base := 5, keepL := [(0, [0, 7, 8, 9])], keepX := [(0, []), (1, [0, 7, 8, 9])] }, mode := fun _ => .borrow }
noncomputable def O_impl_Kernel_clear_v2 : Oracle := Oracle.of []
def sh_impl_Kernel_clear_v2_l0 : List (Nat × S2) := [(0, .one (.ptr 3 0 0)), (7, .one (.all 2)), (8, .one (.dat I)), (9, .one (.dat I))]
def bs_impl_Kernel_clear_v2_l0 : List SB := [.var [.dat I, .dat I, .dat I, .e0 tEntry, .e0 I, .dat I], .data tEntry, .data I, .var [.dat I, .dat I, .dat I, .all 4, .all 2, .dat I], .data tEntry]
noncomputable def lc_impl_Kernel_clear_v2_l0 : LCon := LCon.shape1 sh_impl_Kernel_clear_v2_l0 bs_impl_Kernel_clear_v2_l0 impl_Kernel_clear_v2_l0 (fun a => (.exit 0, encSt [] [.var [.dat I, .dat I, .dat I, .e0 tEntry, .e0 I, .dat I], .data tEntry, .data I, .var [.dat I, .dat I, .dat I, .all 4, .all 2, .dat I], .data tEntry] a))
noncomputable def L_impl_Kernel_clear_v2 : Loops := Loops.of [(0, lc_impl_Kernel_clear_v2_l0)]
theorem r_impl_Kernel_clear_v2_l0 (x : FSt sh_impl_Kernel_clear_v2_l0 bs_impl_Kernel_clear_v2_l0) : roundK C_impl_Kernel_clear_v2.T (C_impl_Kernel_clear_v2.hint 126) C_impl_Kernel_clear_v2.mode O_impl_Kernel_clear_v2 L_impl_Kernel_clear_v2 0 (lp Try.prog 126 0) (encSt sh_impl_Kernel_clear_v2_l0 bs_impl_Kernel_clear_v2_l0 x) (fun e s => some (e, s)) =
    impl_Kernel_clear_v2_l0K x.1 x.2.1 x.2.2.1 x.2.2.2.1 x.2.2.2.2.1 x.2.2.2.2.2.1 x.2.2.2.2.2.2.1 x.2.2.2.2.2.2.2.1 x.2.2.2.2.2.2.2.2.1 x.2.2.2.2.2.2.2.2.2.1 x.2.2.2.2.2.2.2.2.2.2.1 x.2.2.2.2.2.2.2.2.2.2.2.1 x.2.2.2.2.2.2.2.2.2.2.2.2.1 (fun y => some (Ex.normal, encSt sh_impl_Kernel_clear_v2_l0 bs_impl_Kernel_clear_v2_l0 y)) (fun a => some (Ex.exit 0, encSt [] [.var [.dat I, .dat I, .dat I, .e0 tEntry, .e0 I, .dat I], .data tEntry, .data I, .var [.dat I, .dat I, .dat I, .all 4, .all 2, .dat I], .data tEntry] a)) := by kernel_rfl
theorem lo_impl_Kernel_clear_v2_l0 : LConOk C_impl_Kernel_clear_v2.T (C_impl_Kernel_clear_v2.hint 126) C_impl_Kernel_clear_v2.mode O_impl_Kernel_clear_v2 L_impl_Kernel_clear_v2 0 (lp Try.prog 126 0) lc_impl_Kernel_clear_v2_l0 :=
  LCon.shape1_ok (fun a => by simp) fun x => (r_impl_Kernel_clear_v2_l0 x).trans (impl_Kernel_clear_v2_l0_eq x.1 x.2.1 x.2.2.1 x.2.2.2.1 x.2.2.2.2.1 x.2.2.2.2.2.1 x.2.2.2.2.2.2.1 x.2.2.2.2.2.2.2.1 x.2.2.2.2.2.2.2.2.1 x.2.2.2.2.2.2.2.2.2.1 x.2.2.2.2.2.2.2.2.2.2.1 x.2.2.2.2.2.2.2.2.2.2.2.1 x.2.2.2.2.2.2.2.2.2.2.2.2.1 _ _)
theorem lf_impl_Kernel_clear_v2 : LoopsFn Try.prog C_impl_Kernel_clear_v2 O_impl_Kernel_clear_v2 126 L_impl_Kernel_clear_v2 := LoopsFn.all (by kernel_rfl) (by decide) ⟨lo_impl_Kernel_clear_v2_l0, trivial⟩
def out_impl_Kernel_clear_v2 (r : Int × Int × Int × Int × (List DEntry) × (List Int) × Int × Int × Int × Int × (List DEntry)) : AV × Store := outT [] [.var [.dat I, .dat I, .dat I, .e0 tEntry, .e0 I, .dat I], .data tEntry, .data I, .var [.dat I, .dat I, .dat I, .all 4, .all 2, .dat I], .data tEntry] (r.1, r.2.1, r.2.2.1, r.2.2.2.1, r.2.2.2.2.1, r.2.2.2.2.2.1, r.2.2.2.2.2.2.1, r.2.2.2.2.2.2.2.1, r.2.2.2.2.2.2.2.2.1, r.2.2.2.2.2.2.2.2.2.1, r.2.2.2.2.2.2.2.2.2.2, ())
theorem w_impl_Kernel_clear_v2 (x : FAr [.one (.ptr 3 0 0)] [.var [.dat I, .dat I, .dat I, .e0 tEntry, .e0 I, .dat I], .data tEntry, .data I, .var [.dat I, .dat I, .dat I, .all 4, .all 2, .dat I], .data tEntry]) : evBodyK Try.prog C_impl_Kernel_clear_v2 O_impl_Kernel_clear_v2 L_impl_Kernel_clear_v2 126 (encAr [.one (.ptr 3 0 0)] [.var [.dat I, .dat I, .dat I, .e0 tEntry, .e0 I, .dat I], .data tEntry, .data I, .var [.dat I, .dat I, .dat I, .all 4, .all 2, .dat I], .data tEntry] x).1 (encAr [.one (.ptr 3 0 0)] [.var [.dat I, .dat I, .dat I, .e0 tEntry, .e0 I, .dat I], .data tEntry, .data I, .var [.dat I, .dat I, .dat I, .all 4, .all 2, .dat I], .data tEntry] x).2 (fun v s => some (v, s)) =
    impl_Kernel_clear_v2K x.1 x.2.1 x.2.2.1 x.2.2.2.1 x.2.2.2.2.1 x.2.2.2.2.2.1 x.2.2.2.2.2.2.1 x.2.2.2.2.2.2.2.1 x.2.2.2.2.2.2.2.2.1 x.2.2.2.2.2.2.2.2.2.1 x.2.2.2.2.2.2.2.2.2.2.1 (fun r => some (out_impl_Kernel_clear_v2 r)) := by kernel_rfl
theorem sem_impl_Kernel_clear_v2 : ∀ x y, (fun x => impl_Kernel_clear_v2 x.1 x.2.1 x.2.2.1 x.2.2.2.1 x.2.2.2.2.1 x.2.2.2.2.2.1 x.2.2.2.2.2.2.1 x.2.2.2.2.2.2.2.1 x.2.2.2.2.2.2.2.2.1 x.2.2.2.2.2.2.2.2.2.1 x.2.2.2.2.2.2.2.2.2.2.1) x = some y → SemCall Try.prog 126 (encAr [.one (.ptr 3 0 0)] [.var [.dat I, .dat I, .dat I, .e0 tEntry, .e0 I, .dat I], .data tEntry, .data I, .var [.dat I, .dat I, .dat I, .all 4, .all 2, .dat I], .data tEntry] x).1 (encAr [.one (.ptr 3 0 0)] [.var [.dat I, .dat I, .dat I, .e0 tEntry, .e0 I, .dat I], .data tEntry, .data I, .var [.dat I, .dat I, .dat I, .all 4, .all 2, .dat I], .data tEntry] x).2 (out_impl_Kernel_clear_v2 y).1 (out_impl_Kernel_clear_v2 y).2 :=
  sem_of folP okP tabP (Oracle.of_ok Oracle.nil_ok) lf_impl_Kernel_clear_v2 fun x => (w_impl_Kernel_clear_v2 x).trans (impl_Kernel_clear_v2_eq x.1 x.2.1 x.2.2.1 x.2.2.2.1 x.2.2.2.2.1 x.2.2.2.2.2.1 x.2.2.2.2.2.2.1 x.2.2.2.2.2.2.2.1 x.2.2.2.2.2.2.2.2.1 x.2.2.2.2.2.2.2.2.2.1 x.2.2.2.2.2.2.2.2.2.2.1 _)
noncomputable def c_impl_Kernel_clear_v2 : Con := Con.shape [.one (.ptr 3 0 0)] [.var [.dat I, .dat I, .dat I, .e0 tEntry, .e0 I, .dat I], .data tEntry, .data I, .var [.dat I, .dat I, .dat I, .all 4, .all 2, .dat I], .data tEntry] (fun x => impl_Kernel_clear_v2 x.1 x.2.1 x.2.2.1 x.2.2.2.1 x.2.2.2.2.1 x.2.2.2.2.2.1 x.2.2.2.2.2.2.1 x.2.2.2.2.2.2.2.1 x.2.2.2.2.2.2.2.2.1 x.2.2.2.2.2.2.2.2.2.1 x.2.2.2.2.2.2.2.2.2.2.1) out_impl_Kernel_clear_v2
theorem ok_impl_Kernel_clear_v2 : ConOk Try.prog 126 c_impl_Kernel_clear_v2 := Con.shape_ok sem_impl_Kernel_clear_v2

/-! 91 -/
def C_impl_removing : Cfg := { T := tab, hint := fun _ => { mu := [6, 8, 14, 28], keepR := [1, 2, 3, 6, 7, 8, 11, 18], res := [6, 7], order := [(6, [(0, .read), (1, .read), (2, .read), (3, .read), (4, .read), (5, .forced), (6, .forced), (7, .forced), (8, .forced), (9, .forced), (10, .forced)])], fillR := true }, mode := modeOf [(126, .whole)] }
noncomputable def O_impl_removing : Oracle := Oracle.of [(26, c_impl_KernelValid), (56, c_impl_Kernel_copyOf), (57, c_impl_Kernel_has), (92, c_impl_RevokeCap), (126, c_impl_Kernel_clear_v2)]
noncomputable def L_impl_removing : Loops := Loops.of []
theorem lf_impl_removing : LoopsFn Try.prog C_impl_removing O_impl_removing 91 L_impl_removing := LoopsFn.nil' (by kernel_rfl)
def out_impl_removing (r : Int × Int × Int × Int × Int × (List DEntry) × (List Int)) : AV × Store := outT [.agg [.dat I, .dat I, .dat I, .all 0, .all 1, .dat I], .one (.dat I)] [.data tEntry, .data I] (r.1, r.2.1, r.2.2.1, r.2.2.2.1, r.2.2.2.2.1, r.2.2.2.2.2.1, r.2.2.2.2.2.2, ())
theorem w_impl_removing (x : FAr [.one (.dat tKernel), .one (.dat I), .fn 92 []] []) : evBodyK Try.prog C_impl_removing O_impl_removing L_impl_removing 91 (encAr [.one (.dat tKernel), .one (.dat I), .fn 92 []] [] x).1 (encAr [.one (.dat tKernel), .one (.dat I), .fn 92 []] [] x).2 (fun v s => some (v, s)) =
    impl_removingK x.1 x.2.1 (fun r => some (out_impl_removing r)) := by kernel_rfl
theorem sem_impl_removing : ∀ x y, (fun x => impl_removing x.1 x.2.1) x = some y → SemCall Try.prog 91 (encAr [.one (.dat tKernel), .one (.dat I), .fn 92 []] [] x).1 (encAr [.one (.dat tKernel), .one (.dat I), .fn 92 []] [] x).2 (out_impl_removing y).1 (out_impl_removing y).2 :=
  sem_of folP okP tabP (Oracle.of_ok (Oracle.cons_ok ok_impl_KernelValid (Oracle.cons_ok ok_impl_Kernel_copyOf (Oracle.cons_ok ok_impl_Kernel_has (Oracle.cons_ok ok_impl_RevokeCap (Oracle.cons_ok ok_impl_Kernel_clear_v2 Oracle.nil_ok)))))) lf_impl_removing fun x => (w_impl_removing x).trans (impl_removing_eq x.1 x.2.1 _)
noncomputable def c_impl_removing : Con := Con.shape [.one (.dat tKernel), .one (.dat I), .fn 92 []] [] (fun x => impl_removing x.1 x.2.1) out_impl_removing
theorem ok_impl_removing : ConOk Try.prog 91 c_impl_removing := Con.shape_ok sem_impl_removing

/-! 38 -/
def C_impl_SysRevoke : Cfg := { T := tab, hint := fun _ => { mu := [4, 8], keepR := [1, 2, 4, 5], res := [4, 5] }, mode := fun _ => .borrow }
noncomputable def O_impl_SysRevoke : Oracle := Oracle.of [(91, c_impl_removing)]
noncomputable def L_impl_SysRevoke : Loops := Loops.of []
theorem lf_impl_SysRevoke : LoopsFn Try.prog C_impl_SysRevoke O_impl_SysRevoke 38 L_impl_SysRevoke := LoopsFn.nil' (by kernel_rfl)
def out_impl_SysRevoke (r : Int × Int × Int × Int × Int × (List DEntry) × (List Int)) : AV × Store := outT [.agg [.dat I, .dat I, .dat I, .all 0, .all 1, .dat I], .one (.dat I)] [.data tEntry, .data I] (r.1, r.2.1, r.2.2.1, r.2.2.2.1, r.2.2.2.2.1, r.2.2.2.2.2.1, r.2.2.2.2.2.2, ())
theorem w_impl_SysRevoke (x : FAr [.one (.dat tKernel), .one (.dat I)] []) : evBodyK Try.prog C_impl_SysRevoke O_impl_SysRevoke L_impl_SysRevoke 38 (encAr [.one (.dat tKernel), .one (.dat I)] [] x).1 (encAr [.one (.dat tKernel), .one (.dat I)] [] x).2 (fun v s => some (v, s)) =
    impl_SysRevokeK x.1 x.2.1 (fun r => some (out_impl_SysRevoke r)) := by kernel_rfl
theorem sem_impl_SysRevoke : ∀ x y, (fun x => impl_SysRevoke x.1 x.2.1) x = some y → SemCall Try.prog 38 (encAr [.one (.dat tKernel), .one (.dat I)] [] x).1 (encAr [.one (.dat tKernel), .one (.dat I)] [] x).2 (out_impl_SysRevoke y).1 (out_impl_SysRevoke y).2 :=
  sem_of folP okP tabP (Oracle.of_ok (Oracle.cons_ok ok_impl_removing Oracle.nil_ok)) lf_impl_SysRevoke fun x => (w_impl_SysRevoke x).trans (impl_SysRevoke_eq x.1 x.2.1 _)
noncomputable def c_impl_SysRevoke : Con := Con.shape [.one (.dat tKernel), .one (.dat I)] [] (fun x => impl_SysRevoke x.1 x.2.1) out_impl_SysRevoke
theorem ok_impl_SysRevoke : ConOk Try.prog 38 c_impl_SysRevoke := Con.shape_ok sem_impl_SysRevoke

/-! 94 -/
def C_impl_RemoveCap : Cfg := { T := tab, hint := fun _ => { mu := [4, 7, 13], keepR := [0, 1, 4, 5, 6, 7, 11, 18, 19, 20, 21, 33], res := [4], keepL := [(0, [0, 1, 5, 18, 19, 20])], keepX := [(0, [5]), (1, [0, 1, 5, 18, 19, 20])] }, mode := fun _ => .borrow }
noncomputable def O_impl_RemoveCap : Oracle := Oracle.of [(80, c_impl_clone_Entry), (103, c_impl_alive)]
def sh_impl_RemoveCap_l0 : List (Nat × S2) := [(0, .one (.dat (.sl tEntry))), (1, .one (.dat I)), (5, .one (.all 0)), (18, .one (.dat (.sl tEntry))), (19, .one (.dat I)), (20, .one (.dat I))]
def bs_impl_RemoveCap_l0 : List SB := [.data tEntry]
noncomputable def lc_impl_RemoveCap_l0 : LCon := LCon.shape1 sh_impl_RemoveCap_l0 bs_impl_RemoveCap_l0 impl_RemoveCap_l0 (fun a => (.exit 0, encSt [(5, .one (.all 0))] [.data tEntry] a))
noncomputable def L_impl_RemoveCap : Loops := Loops.of [(0, lc_impl_RemoveCap_l0)]
theorem r_impl_RemoveCap_l0 (x : FSt sh_impl_RemoveCap_l0 bs_impl_RemoveCap_l0) : roundK C_impl_RemoveCap.T (C_impl_RemoveCap.hint 94) C_impl_RemoveCap.mode O_impl_RemoveCap L_impl_RemoveCap 0 (lp Try.prog 94 0) (encSt sh_impl_RemoveCap_l0 bs_impl_RemoveCap_l0 x) (fun e s => some (e, s)) =
    impl_RemoveCap_l0K x.1 x.2.1 x.2.2.1 x.2.2.2.1 x.2.2.2.2.1 x.2.2.2.2.2.1 (fun y => some (Ex.normal, encSt sh_impl_RemoveCap_l0 bs_impl_RemoveCap_l0 y)) (fun a => some (Ex.exit 0, encSt [(5, .one (.all 0))] [.data tEntry] a)) := by kernel_rfl
theorem lo_impl_RemoveCap_l0 : LConOk C_impl_RemoveCap.T (C_impl_RemoveCap.hint 94) C_impl_RemoveCap.mode O_impl_RemoveCap L_impl_RemoveCap 0 (lp Try.prog 94 0) lc_impl_RemoveCap_l0 :=
  LCon.shape1_ok (fun a => by simp) fun x => (r_impl_RemoveCap_l0 x).trans (impl_RemoveCap_l0_eq x.1 x.2.1 x.2.2.1 x.2.2.2.1 x.2.2.2.2.1 x.2.2.2.2.2.1 _ _)
theorem lf_impl_RemoveCap : LoopsFn Try.prog C_impl_RemoveCap O_impl_RemoveCap 94 L_impl_RemoveCap := LoopsFn.all (by kernel_rfl) (by decide) ⟨lo_impl_RemoveCap_l0, trivial⟩
def out_impl_RemoveCap (r : (List DEntry)) : AV × Store := out1 (.one (.all 0)) [.data tEntry] (r, ())
theorem w_impl_RemoveCap (x : FAr [.one (.dat (.sl tEntry)), .one (.dat I)] []) : evBodyK Try.prog C_impl_RemoveCap O_impl_RemoveCap L_impl_RemoveCap 94 (encAr [.one (.dat (.sl tEntry)), .one (.dat I)] [] x).1 (encAr [.one (.dat (.sl tEntry)), .one (.dat I)] [] x).2 (fun v s => some (v, s)) =
    impl_RemoveCapK x.1 x.2.1 (fun r => some (out_impl_RemoveCap r)) := by kernel_rfl
theorem sem_impl_RemoveCap : ∀ x y, (fun x => impl_RemoveCap x.1 x.2.1) x = some y → SemCall Try.prog 94 (encAr [.one (.dat (.sl tEntry)), .one (.dat I)] [] x).1 (encAr [.one (.dat (.sl tEntry)), .one (.dat I)] [] x).2 (out_impl_RemoveCap y).1 (out_impl_RemoveCap y).2 :=
  sem_of folP okP tabP (Oracle.of_ok (Oracle.cons_ok ok_impl_clone_Entry (Oracle.cons_ok ok_impl_alive Oracle.nil_ok))) lf_impl_RemoveCap fun x => (w_impl_RemoveCap x).trans (impl_RemoveCap_eq x.1 x.2.1 _)
noncomputable def c_impl_RemoveCap : Con := Con.shape [.one (.dat (.sl tEntry)), .one (.dat I)] [] (fun x => impl_RemoveCap x.1 x.2.1) out_impl_RemoveCap
theorem ok_impl_RemoveCap : ConOk Try.prog 94 c_impl_RemoveCap := Con.shape_ok sem_impl_RemoveCap

/-! 91 -/
def C_impl_removing_v2 : Cfg := { T := tab, hint := fun _ => { mu := [6, 8, 14, 28], keepR := [1, 2, 3, 6, 7, 8, 11, 18], res := [6, 7], order := [(6, [(0, .read), (1, .read), (2, .read), (3, .read), (4, .read), (5, .forced), (6, .forced), (7, .forced), (8, .forced), (9, .forced), (10, .forced)])], fillR := true }, mode := modeOf [(126, .whole)] }
noncomputable def O_impl_removing_v2 : Oracle := Oracle.of [(26, c_impl_KernelValid), (56, c_impl_Kernel_copyOf), (57, c_impl_Kernel_has), (94, c_impl_RemoveCap), (126, c_impl_Kernel_clear_v2)]
noncomputable def L_impl_removing_v2 : Loops := Loops.of []
theorem lf_impl_removing_v2 : LoopsFn Try.prog C_impl_removing_v2 O_impl_removing_v2 91 L_impl_removing_v2 := LoopsFn.nil' (by kernel_rfl)
def out_impl_removing_v2 (r : Int × Int × Int × Int × Int × (List DEntry) × (List Int)) : AV × Store := outT [.agg [.dat I, .dat I, .dat I, .all 0, .all 1, .dat I], .one (.dat I)] [.data tEntry, .data I] (r.1, r.2.1, r.2.2.1, r.2.2.2.1, r.2.2.2.2.1, r.2.2.2.2.2.1, r.2.2.2.2.2.2, ())
theorem w_impl_removing_v2 (x : FAr [.one (.dat tKernel), .one (.dat I), .fn 94 []] []) : evBodyK Try.prog C_impl_removing_v2 O_impl_removing_v2 L_impl_removing_v2 91 (encAr [.one (.dat tKernel), .one (.dat I), .fn 94 []] [] x).1 (encAr [.one (.dat tKernel), .one (.dat I), .fn 94 []] [] x).2 (fun v s => some (v, s)) =
    impl_removing_v2K x.1 x.2.1 (fun r => some (out_impl_removing_v2 r)) := by kernel_rfl
theorem sem_impl_removing_v2 : ∀ x y, (fun x => impl_removing_v2 x.1 x.2.1) x = some y → SemCall Try.prog 91 (encAr [.one (.dat tKernel), .one (.dat I), .fn 94 []] [] x).1 (encAr [.one (.dat tKernel), .one (.dat I), .fn 94 []] [] x).2 (out_impl_removing_v2 y).1 (out_impl_removing_v2 y).2 :=
  sem_of folP okP tabP (Oracle.of_ok (Oracle.cons_ok ok_impl_KernelValid (Oracle.cons_ok ok_impl_Kernel_copyOf (Oracle.cons_ok ok_impl_Kernel_has (Oracle.cons_ok ok_impl_RemoveCap (Oracle.cons_ok ok_impl_Kernel_clear_v2 Oracle.nil_ok)))))) lf_impl_removing_v2 fun x => (w_impl_removing_v2 x).trans (impl_removing_v2_eq x.1 x.2.1 _)
noncomputable def c_impl_removing_v2 : Con := Con.shape [.one (.dat tKernel), .one (.dat I), .fn 94 []] [] (fun x => impl_removing_v2 x.1 x.2.1) out_impl_removing_v2
theorem ok_impl_removing_v2 : ConOk Try.prog 91 c_impl_removing_v2 := Con.shape_ok sem_impl_removing_v2

/-! 40 -/
def C_impl_SysDelete : Cfg := { T := tab, hint := fun _ => { mu := [4, 8], keepR := [1, 2, 4, 5], res := [4, 5] }, mode := fun _ => .borrow }
noncomputable def O_impl_SysDelete : Oracle := Oracle.of [(91, c_impl_removing_v2)]
noncomputable def L_impl_SysDelete : Loops := Loops.of []
theorem lf_impl_SysDelete : LoopsFn Try.prog C_impl_SysDelete O_impl_SysDelete 40 L_impl_SysDelete := LoopsFn.nil' (by kernel_rfl)
def out_impl_SysDelete (r : Int × Int × Int × Int × Int × (List DEntry) × (List Int)) : AV × Store := outT [.agg [.dat I, .dat I, .dat I, .all 0, .all 1, .dat I], .one (.dat I)] [.data tEntry, .data I] (r.1, r.2.1, r.2.2.1, r.2.2.2.1, r.2.2.2.2.1, r.2.2.2.2.2.1, r.2.2.2.2.2.2, ())
theorem w_impl_SysDelete (x : FAr [.one (.dat tKernel), .one (.dat I)] []) : evBodyK Try.prog C_impl_SysDelete O_impl_SysDelete L_impl_SysDelete 40 (encAr [.one (.dat tKernel), .one (.dat I)] [] x).1 (encAr [.one (.dat tKernel), .one (.dat I)] [] x).2 (fun v s => some (v, s)) =
    impl_SysDeleteK x.1 x.2.1 (fun r => some (out_impl_SysDelete r)) := by kernel_rfl
theorem sem_impl_SysDelete : ∀ x y, (fun x => impl_SysDelete x.1 x.2.1) x = some y → SemCall Try.prog 40 (encAr [.one (.dat tKernel), .one (.dat I)] [] x).1 (encAr [.one (.dat tKernel), .one (.dat I)] [] x).2 (out_impl_SysDelete y).1 (out_impl_SysDelete y).2 :=
  sem_of folP okP tabP (Oracle.of_ok (Oracle.cons_ok ok_impl_removing_v2 Oracle.nil_ok)) lf_impl_SysDelete fun x => (w_impl_SysDelete x).trans (impl_SysDelete_eq x.1 x.2.1 _)
noncomputable def c_impl_SysDelete : Con := Con.shape [.one (.dat tKernel), .one (.dat I)] [] (fun x => impl_SysDelete x.1 x.2.1) out_impl_SysDelete
theorem ok_impl_SysDelete : ConOk Try.prog 40 c_impl_SysDelete := Con.shape_ok sem_impl_SysDelete

/-! 6 -/
def C_laws_FnKernelRevoke : Cfg := { T := tab, hint := fun _ => { mu := [3, 5, 7, 9, 12], keepR := [0, 2, 3, 4, 5, 6, 7, 8, 9, 10, 11, 12, 16, 42, 57, 73, 112], res := [2], order := [(8, [(0, .forced), (1, .forced), (2, .forced), (3, .read), (4, .read), (5, .read), (6, .read), (7, .forced), (8, .forced), (9, .forced), (10, .forced), (11, .forced), (12, .forced), (13, .forced), (14, .forced)]), (10, [(0, .read), (1, .read), (2, .read), (3, .read), (4, .read), (5, .read), (6, .read), (7, .read), (8, .read), (9, .read), (10, .forced), (11, .forced)]), (15, [(0, .read), (1, .read), (2, .read), (3, .forced), (4, .forced), (5, .forced), (6, .forced), (7, .forced), (8, .read), (9, .read), (10, .forced), (11, .forced), (12, .forced), (13, .forced), (14, .forced), (15, .forced), (16, .forced), (17, .read), (18, .read), (19, .forced), (20, .forced), (21, .forced), (22, .forced), (23, .forced), (24, .forced), (25, .forced), (26, .read), (27, .read), (28, .read), (29, .read), (30, .read), (31, .read), (32, .read), (33, .forced), (34, .forced), (35, .forced), (36, .forced)]), (18, [(0, .forced), (1, .forced), (2, .forced), (3, .read), (4, .read), (5, .read), (6, .read), (7, .read), (8, .read), (9, .read), (10, .forced), (11, .forced), (12, .forced), (13, .forced), (14, .read), (15, .read), (16, .read), (17, .read), (18, .forced), (19, .forced), (20, .forced), (21, .forced), (22, .forced), (23, .forced), (24, .forced)])], keepL := [(0, [3, 4, 5, 9, 10, 11])], keepX := [(0, [4, 5, 9, 10]), (1, [3, 4, 5, 9, 10, 11])] }, mode := fun _ => .borrow }
noncomputable def O_laws_FnKernelRevoke : Oracle := Oracle.of [(22, c_laws_sameKernel), (24, c_laws_alive), (25, c_impl_StrongestLeft), (37, c_spec_DrawSysRevoke), (38, c_impl_SysRevoke), (39, c_spec_SysRevoke), (40, c_impl_SysDelete)]
def sh_laws_FnKernelRevoke_l0 : List (Nat × S2) := [(3, .one (.ptr 0 0 0)), (4, .one (.dat I)), (5, .one (.ptr 1 0 0)), (9, .one (.ptr 2 0 0)), (10, .one (.dat .bool)), (11, .one (.dat I))]
def bs_laws_FnKernelRevoke_l0 : List SB := [.var [.dat I, .dat I, .dat I, .dat (.sl tEntry), .dat (.sl I), .dat I], .var [.dat I, .dat I, .dat I, .dat (.sl tEntry), .dat (.sl I), .dat I], .one tCap]
noncomputable def lc_laws_FnKernelRevoke_l0 : LCon := LCon.shape1 sh_laws_FnKernelRevoke_l0 bs_laws_FnKernelRevoke_l0 laws_FnKernelRevoke_l0 (fun a => (.exit 0, encSt [(4, .one (.dat I)), (5, .one (.ptr 0 0 0)), (9, .one (.ptr 1 0 0)), (10, .one (.dat .bool))] [.var [.dat I, .dat I, .dat I, .dat (.sl tEntry), .dat (.sl I), .dat I], .one tCap] a))
noncomputable def L_laws_FnKernelRevoke : Loops := Loops.of [(0, lc_laws_FnKernelRevoke_l0)]
theorem r_laws_FnKernelRevoke_l0 (x : FSt sh_laws_FnKernelRevoke_l0 bs_laws_FnKernelRevoke_l0) : roundK C_laws_FnKernelRevoke.T (C_laws_FnKernelRevoke.hint 6) C_laws_FnKernelRevoke.mode O_laws_FnKernelRevoke L_laws_FnKernelRevoke 0 (lp Try.prog 6 0) (encSt sh_laws_FnKernelRevoke_l0 bs_laws_FnKernelRevoke_l0 x) (fun e s => some (e, s)) =
    laws_FnKernelRevoke_l0K x.1 x.2.1 x.2.2.1 x.2.2.2.1 x.2.2.2.2.1 x.2.2.2.2.2.1 x.2.2.2.2.2.2.1 x.2.2.2.2.2.2.2.1 x.2.2.2.2.2.2.2.2.1 x.2.2.2.2.2.2.2.2.2.1 x.2.2.2.2.2.2.2.2.2.2.1 x.2.2.2.2.2.2.2.2.2.2.2.1 x.2.2.2.2.2.2.2.2.2.2.2.2.1 x.2.2.2.2.2.2.2.2.2.2.2.2.2.1 x.2.2.2.2.2.2.2.2.2.2.2.2.2.2.1 x.2.2.2.2.2.2.2.2.2.2.2.2.2.2.2.1 (fun y => some (Ex.normal, encSt sh_laws_FnKernelRevoke_l0 bs_laws_FnKernelRevoke_l0 y)) (fun a => some (Ex.exit 0, encSt [(4, .one (.dat I)), (5, .one (.ptr 0 0 0)), (9, .one (.ptr 1 0 0)), (10, .one (.dat .bool))] [.var [.dat I, .dat I, .dat I, .dat (.sl tEntry), .dat (.sl I), .dat I], .one tCap] a)) := by kernel_rfl
theorem lo_laws_FnKernelRevoke_l0 : LConOk C_laws_FnKernelRevoke.T (C_laws_FnKernelRevoke.hint 6) C_laws_FnKernelRevoke.mode O_laws_FnKernelRevoke L_laws_FnKernelRevoke 0 (lp Try.prog 6 0) lc_laws_FnKernelRevoke_l0 :=
  LCon.shape1_ok (fun a => by simp) fun x => (r_laws_FnKernelRevoke_l0 x).trans (laws_FnKernelRevoke_l0_eq x.1 x.2.1 x.2.2.1 x.2.2.2.1 x.2.2.2.2.1 x.2.2.2.2.2.1 x.2.2.2.2.2.2.1 x.2.2.2.2.2.2.2.1 x.2.2.2.2.2.2.2.2.1 x.2.2.2.2.2.2.2.2.2.1 x.2.2.2.2.2.2.2.2.2.2.1 x.2.2.2.2.2.2.2.2.2.2.2.1 x.2.2.2.2.2.2.2.2.2.2.2.2.1 x.2.2.2.2.2.2.2.2.2.2.2.2.2.1 x.2.2.2.2.2.2.2.2.2.2.2.2.2.2.1 x.2.2.2.2.2.2.2.2.2.2.2.2.2.2.2.1 _ _)
theorem lf_laws_FnKernelRevoke : LoopsFn Try.prog C_laws_FnKernelRevoke O_laws_FnKernelRevoke 6 L_laws_FnKernelRevoke := LoopsFn.all (by kernel_rfl) (by decide) ⟨lo_laws_FnKernelRevoke_l0, trivial⟩
def out_laws_FnKernelRevoke (r : Bool) : AV × Store := out1 (.one (.dat .bool)) [] (r, ())
theorem w_laws_FnKernelRevoke (x : FAr [.one (.dat (.sl (.int .u8)))] []) : evBodyK Try.prog C_laws_FnKernelRevoke O_laws_FnKernelRevoke L_laws_FnKernelRevoke 6 (encAr [.one (.dat (.sl (.int .u8)))] [] x).1 (encAr [.one (.dat (.sl (.int .u8)))] [] x).2 (fun v s => some (v, s)) =
    laws_FnKernelRevokeK x.1 (fun r => some (out_laws_FnKernelRevoke r)) := by kernel_rfl
theorem sem_laws_FnKernelRevoke : ∀ x y, (fun x => laws_FnKernelRevoke x.1) x = some y → SemCall Try.prog 6 (encAr [.one (.dat (.sl (.int .u8)))] [] x).1 (encAr [.one (.dat (.sl (.int .u8)))] [] x).2 (out_laws_FnKernelRevoke y).1 (out_laws_FnKernelRevoke y).2 :=
  sem_of folP okP tabP (Oracle.of_ok (Oracle.cons_ok ok_laws_sameKernel (Oracle.cons_ok ok_laws_alive (Oracle.cons_ok ok_impl_StrongestLeft (Oracle.cons_ok ok_spec_DrawSysRevoke (Oracle.cons_ok ok_impl_SysRevoke (Oracle.cons_ok ok_spec_SysRevoke (Oracle.cons_ok ok_impl_SysDelete Oracle.nil_ok)))))))) lf_laws_FnKernelRevoke fun x => (w_laws_FnKernelRevoke x).trans (laws_FnKernelRevoke_eq x.1 _)
noncomputable def c_laws_FnKernelRevoke : Con := Con.shape [.one (.dat (.sl (.int .u8)))] [] (fun x => laws_FnKernelRevoke x.1) out_laws_FnKernelRevoke
theorem ok_laws_FnKernelRevoke : ConOk Try.prog 6 c_laws_FnKernelRevoke := Con.shape_ok sem_laws_FnKernelRevoke

/-! 41 -/
def C_spec_DrawNewKernel : Cfg := { T := tab, hint := fun _ => { mu := [6], keepR := [0, 2, 3, 4], res := [2, 3] }, mode := modeOf [(55, .sub)] }
noncomputable def O_spec_DrawNewKernel : Oracle := Oracle.of [(51, c_spec_l20Open), (55, c_spec_l20Rd_pick)]
noncomputable def L_spec_DrawNewKernel : Loops := Loops.of []
theorem lf_spec_DrawNewKernel : LoopsFn Try.prog C_spec_DrawNewKernel O_spec_DrawNewKernel 41 L_spec_DrawNewKernel := LoopsFn.nil' (by kernel_rfl)
def out_spec_DrawNewKernel (r : Int × Int) : AV × Store := outT [.one (.dat I), .one (.dat I)] [] (r.1, r.2, ())
theorem w_spec_DrawNewKernel (x : FAr [.one (.dat (.sl (.int .u8)))] []) : evBodyK Try.prog C_spec_DrawNewKernel O_spec_DrawNewKernel L_spec_DrawNewKernel 41 (encAr [.one (.dat (.sl (.int .u8)))] [] x).1 (encAr [.one (.dat (.sl (.int .u8)))] [] x).2 (fun v s => some (v, s)) =
    spec_DrawNewKernelK x.1 (fun r => some (out_spec_DrawNewKernel r)) := by kernel_rfl
theorem sem_spec_DrawNewKernel : ∀ x y, (fun x => spec_DrawNewKernel x.1) x = some y → SemCall Try.prog 41 (encAr [.one (.dat (.sl (.int .u8)))] [] x).1 (encAr [.one (.dat (.sl (.int .u8)))] [] x).2 (out_spec_DrawNewKernel y).1 (out_spec_DrawNewKernel y).2 :=
  sem_of folP okP tabP (Oracle.of_ok (Oracle.cons_ok ok_spec_l20Open (Oracle.cons_ok ok_spec_l20Rd_pick Oracle.nil_ok))) lf_spec_DrawNewKernel fun x => (w_spec_DrawNewKernel x).trans (spec_DrawNewKernel_eq x.1 _)
noncomputable def c_spec_DrawNewKernel : Con := Con.shape [.one (.dat (.sl (.int .u8)))] [] (fun x => spec_DrawNewKernel x.1) out_spec_DrawNewKernel
theorem ok_spec_DrawNewKernel : ConOk Try.prog 41 c_spec_DrawNewKernel := Con.shape_ok sem_spec_DrawNewKernel

/-! 7 -/
def C_laws_FnKernelNew : Cfg := { T := tab, hint := fun _ => { mu := [5, 8], keepR := [0, 2, 3, 4, 5, 6, 7, 8, 9, 10, 11, 14, 28, 34, 44, 52], res := [2], order := [(5, [(0, .read), (1, .read), (2, .forced), (3, .forced), (4, .forced), (5, .forced)])], keepL := [(0, [3, 4, 5, 6, 7])], keepX := [(0, [3, 4, 6, 7]), (1, [3, 4, 5, 6, 7])] }, mode := fun _ => .borrow }
noncomputable def O_laws_FnKernelNew : Oracle := Oracle.of [(22, c_laws_sameKernel), (29, c_impl_SysRetype), (32, c_spec_NewKernel), (33, c_impl_NewKernel), (41, c_spec_DrawNewKernel)]
def sh_laws_FnKernelNew_l0 : List (Nat × S2) := [(3, .one (.dat I)), (4, .one (.dat I)), (5, .one (.ptr 0 0 0)), (6, .one (.dat I)), (7, .one (.dat I))]
def bs_laws_FnKernelNew_l0 : List SB := [.var [.dat I, .dat I, .dat I, .dat (.sl tEntry), .dat (.sl I), .dat I]]
noncomputable def lc_laws_FnKernelNew_l0 : LCon := LCon.shape1 sh_laws_FnKernelNew_l0 bs_laws_FnKernelNew_l0 laws_FnKernelNew_l0 (fun a => (.exit 0, encSt [(3, .one (.dat I)), (4, .one (.dat I)), (6, .one (.dat I)), (7, .one (.dat I))] [] a))
noncomputable def L_laws_FnKernelNew : Loops := Loops.of [(0, lc_laws_FnKernelNew_l0)]
theorem r_laws_FnKernelNew_l0 (x : FSt sh_laws_FnKernelNew_l0 bs_laws_FnKernelNew_l0) : roundK C_laws_FnKernelNew.T (C_laws_FnKernelNew.hint 7) C_laws_FnKernelNew.mode O_laws_FnKernelNew L_laws_FnKernelNew 0 (lp Try.prog 7 0) (encSt sh_laws_FnKernelNew_l0 bs_laws_FnKernelNew_l0 x) (fun e s => some (e, s)) =
    laws_FnKernelNew_l0K x.1 x.2.1 x.2.2.1 x.2.2.2.1 x.2.2.2.2.1 x.2.2.2.2.2.1 x.2.2.2.2.2.2.1 x.2.2.2.2.2.2.2.1 x.2.2.2.2.2.2.2.2.1 x.2.2.2.2.2.2.2.2.2.1 (fun y => some (Ex.normal, encSt sh_laws_FnKernelNew_l0 bs_laws_FnKernelNew_l0 y)) (fun a => some (Ex.exit 0, encSt [(3, .one (.dat I)), (4, .one (.dat I)), (6, .one (.dat I)), (7, .one (.dat I))] [] a)) := by kernel_rfl
theorem lo_laws_FnKernelNew_l0 : LConOk C_laws_FnKernelNew.T (C_laws_FnKernelNew.hint 7) C_laws_FnKernelNew.mode O_laws_FnKernelNew L_laws_FnKernelNew 0 (lp Try.prog 7 0) lc_laws_FnKernelNew_l0 :=
  LCon.shape1_ok (fun a => by simp) fun x => (r_laws_FnKernelNew_l0 x).trans (laws_FnKernelNew_l0_eq x.1 x.2.1 x.2.2.1 x.2.2.2.1 x.2.2.2.2.1 x.2.2.2.2.2.1 x.2.2.2.2.2.2.1 x.2.2.2.2.2.2.2.1 x.2.2.2.2.2.2.2.2.1 x.2.2.2.2.2.2.2.2.2.1 _ _)
theorem lf_laws_FnKernelNew : LoopsFn Try.prog C_laws_FnKernelNew O_laws_FnKernelNew 7 L_laws_FnKernelNew := LoopsFn.all (by kernel_rfl) (by decide) ⟨lo_laws_FnKernelNew_l0, trivial⟩
def out_laws_FnKernelNew (r : Bool) : AV × Store := out1 (.one (.dat .bool)) [] (r, ())
theorem w_laws_FnKernelNew (x : FAr [.one (.dat (.sl (.int .u8)))] []) : evBodyK Try.prog C_laws_FnKernelNew O_laws_FnKernelNew L_laws_FnKernelNew 7 (encAr [.one (.dat (.sl (.int .u8)))] [] x).1 (encAr [.one (.dat (.sl (.int .u8)))] [] x).2 (fun v s => some (v, s)) =
    laws_FnKernelNewK x.1 (fun r => some (out_laws_FnKernelNew r)) := by kernel_rfl
theorem sem_laws_FnKernelNew : ∀ x y, (fun x => laws_FnKernelNew x.1) x = some y → SemCall Try.prog 7 (encAr [.one (.dat (.sl (.int .u8)))] [] x).1 (encAr [.one (.dat (.sl (.int .u8)))] [] x).2 (out_laws_FnKernelNew y).1 (out_laws_FnKernelNew y).2 :=
  sem_of folP okP tabP (Oracle.of_ok (Oracle.cons_ok ok_laws_sameKernel (Oracle.cons_ok ok_impl_SysRetype (Oracle.cons_ok ok_spec_NewKernel (Oracle.cons_ok ok_impl_NewKernel (Oracle.cons_ok ok_spec_DrawNewKernel Oracle.nil_ok)))))) lf_laws_FnKernelNew fun x => (w_laws_FnKernelNew x).trans (laws_FnKernelNew_eq x.1 _)
noncomputable def c_laws_FnKernelNew : Con := Con.shape [.one (.dat (.sl (.int .u8)))] [] (fun x => laws_FnKernelNew x.1) out_laws_FnKernelNew
theorem ok_laws_FnKernelNew : ConOk Try.prog 7 c_laws_FnKernelNew := Con.shape_ok sem_laws_FnKernelNew

/-! 95 -/
def C_laws_szEntryS : Cfg := { T := tab, hint := fun _ => { keepR := [0, 1, 4, 10], res := [4] }, mode := fun _ => .borrow }
noncomputable def O_laws_szEntryS : Oracle := Oracle.of []
noncomputable def L_laws_szEntryS : Loops := Loops.of []
theorem lf_laws_szEntryS : LoopsFn Try.prog C_laws_szEntryS O_laws_szEntryS 95 L_laws_szEntryS := LoopsFn.nil' (by kernel_rfl)
def out_laws_szEntryS (r : Int) : AV × Store := out1 (.one (.dat I)) [] (r, ())
theorem w_laws_szEntryS (x : FAr [.one (.dat (.sl tEntry)), .one (.dat I)] []) : evBodyK Try.prog C_laws_szEntryS O_laws_szEntryS L_laws_szEntryS 95 (encAr [.one (.dat (.sl tEntry)), .one (.dat I)] [] x).1 (encAr [.one (.dat (.sl tEntry)), .one (.dat I)] [] x).2 (fun v s => some (v, s)) =
    laws_szEntrySK x.1 x.2.1 (fun r => some (out_laws_szEntryS r)) := by kernel_rfl
theorem sem_laws_szEntryS : ∀ x y, (fun x => laws_szEntryS x.1 x.2.1) x = some y → SemCall Try.prog 95 (encAr [.one (.dat (.sl tEntry)), .one (.dat I)] [] x).1 (encAr [.one (.dat (.sl tEntry)), .one (.dat I)] [] x).2 (out_laws_szEntryS y).1 (out_laws_szEntryS y).2 :=
  sem_of folP okP tabP (Oracle.of_ok Oracle.nil_ok) lf_laws_szEntryS fun x => (w_laws_szEntryS x).trans (laws_szEntryS_eq x.1 x.2.1 _)
noncomputable def c_laws_szEntryS : Con := Con.shape [.one (.dat (.sl tEntry)), .one (.dat I)] [] (fun x => laws_szEntryS x.1 x.2.1) out_laws_szEntryS
theorem ok_laws_szEntryS : ConOk Try.prog 95 c_laws_szEntryS := Con.shape_ok sem_laws_szEntryS

/-! 96 -/
def C_laws_szIntS : Cfg := { T := tab, hint := fun _ => { keepR := [0, 1, 4, 10], res := [4] }, mode := fun _ => .borrow }
noncomputable def O_laws_szIntS : Oracle := Oracle.of []
noncomputable def L_laws_szIntS : Loops := Loops.of []
theorem lf_laws_szIntS : LoopsFn Try.prog C_laws_szIntS O_laws_szIntS 96 L_laws_szIntS := LoopsFn.nil' (by kernel_rfl)
def out_laws_szIntS (r : Int) : AV × Store := out1 (.one (.dat I)) [] (r, ())
theorem w_laws_szIntS (x : FAr [.one (.dat (.sl I)), .one (.dat I)] []) : evBodyK Try.prog C_laws_szIntS O_laws_szIntS L_laws_szIntS 96 (encAr [.one (.dat (.sl I)), .one (.dat I)] [] x).1 (encAr [.one (.dat (.sl I)), .one (.dat I)] [] x).2 (fun v s => some (v, s)) =
    laws_szIntSK x.1 x.2.1 (fun r => some (out_laws_szIntS r)) := by kernel_rfl
theorem sem_laws_szIntS : ∀ x y, (fun x => laws_szIntS x.1 x.2.1) x = some y → SemCall Try.prog 96 (encAr [.one (.dat (.sl I)), .one (.dat I)] [] x).1 (encAr [.one (.dat (.sl I)), .one (.dat I)] [] x).2 (out_laws_szIntS y).1 (out_laws_szIntS y).2 :=
  sem_of folP okP tabP (Oracle.of_ok Oracle.nil_ok) lf_laws_szIntS fun x => (w_laws_szIntS x).trans (laws_szIntS_eq x.1 x.2.1 _)
noncomputable def c_laws_szIntS : Con := Con.shape [.one (.dat (.sl I)), .one (.dat I)] [] (fun x => laws_szIntS x.1 x.2.1) out_laws_szIntS
theorem ok_laws_szIntS : ConOk Try.prog 96 c_laws_szIntS := Con.shape_ok sem_laws_szIntS

/-! 42 -/
def C_laws_szKernel : Cfg := { T := tab, hint := fun _ => { keepR := [1, 2, 4, 10, 16], res := [4] }, mode := fun _ => .borrow }
noncomputable def O_laws_szKernel : Oracle := Oracle.of [(95, c_laws_szEntryS), (96, c_laws_szIntS)]
noncomputable def L_laws_szKernel : Loops := Loops.of []
theorem lf_laws_szKernel : LoopsFn Try.prog C_laws_szKernel O_laws_szKernel 42 L_laws_szKernel := LoopsFn.nil' (by kernel_rfl)
def out_laws_szKernel (r : Int) : AV × Store := out1 (.one (.dat I)) [] (r, ())
theorem w_laws_szKernel (x : FAr [.one (.dat tKernel), .one (.dat I)] []) : evBodyK Try.prog C_laws_szKernel O_laws_szKernel L_laws_szKernel 42 (encAr [.one (.dat tKernel), .one (.dat I)] [] x).1 (encAr [.one (.dat tKernel), .one (.dat I)] [] x).2 (fun v s => some (v, s)) =
    laws_szKernelK x.1 x.2.1 (fun r => some (out_laws_szKernel r)) := by kernel_rfl
theorem sem_laws_szKernel : ∀ x y, (fun x => laws_szKernel x.1 x.2.1) x = some y → SemCall Try.prog 42 (encAr [.one (.dat tKernel), .one (.dat I)] [] x).1 (encAr [.one (.dat tKernel), .one (.dat I)] [] x).2 (out_laws_szKernel y).1 (out_laws_szKernel y).2 :=
  sem_of folP okP tabP (Oracle.of_ok (Oracle.cons_ok ok_laws_szEntryS (Oracle.cons_ok ok_laws_szIntS Oracle.nil_ok))) lf_laws_szKernel fun x => (w_laws_szKernel x).trans (laws_szKernel_eq x.1 x.2.1 _)
noncomputable def c_laws_szKernel : Con := Con.shape [.one (.dat tKernel), .one (.dat I)] [] (fun x => laws_szKernel x.1 x.2.1) out_laws_szKernel
theorem ok_laws_szKernel : ConOk Try.prog 42 c_laws_szKernel := Con.shape_ok sem_laws_szKernel

/-! 97 -/
def C_laws_toPiece : Cfg := { T := tab, hint := fun _ => { mu := [2, 3], keepR := [1, 2, 3], res := [2] }, mode := fun _ => .borrow }
noncomputable def O_laws_toPiece : Oracle := Oracle.of []
noncomputable def L_laws_toPiece : Loops := Loops.of []
theorem lf_laws_toPiece : LoopsFn Try.prog C_laws_toPiece O_laws_toPiece 97 L_laws_toPiece := LoopsFn.nil' (by kernel_rfl)
def out_laws_toPiece (r : DPiece) : AV × Store := out1 (.one (.dat tPiece)) [] (r, ())
theorem w_laws_toPiece (x : FAr [.one (.dat tPiece)] []) : evBodyK Try.prog C_laws_toPiece O_laws_toPiece L_laws_toPiece 97 (encAr [.one (.dat tPiece)] [] x).1 (encAr [.one (.dat tPiece)] [] x).2 (fun v s => some (v, s)) =
    laws_toPieceK x.1 (fun r => some (out_laws_toPiece r)) := by kernel_rfl
theorem sem_laws_toPiece : ∀ x y, (fun x => laws_toPiece x.1) x = some y → SemCall Try.prog 97 (encAr [.one (.dat tPiece)] [] x).1 (encAr [.one (.dat tPiece)] [] x).2 (out_laws_toPiece y).1 (out_laws_toPiece y).2 :=
  sem_of folP okP tabP (Oracle.of_ok Oracle.nil_ok) lf_laws_toPiece fun x => (w_laws_toPiece x).trans (laws_toPiece_eq x.1 _)
noncomputable def c_laws_toPiece : Con := Con.shape [.one (.dat tPiece)] [] (fun x => laws_toPiece x.1) out_laws_toPiece
theorem ok_laws_toPiece : ConOk Try.prog 97 c_laws_toPiece := Con.shape_ok sem_laws_toPiece

/-! 141 -/
def C_laws_toCap : Cfg := { T := tab, hint := fun _ => { mu := [2, 3], keepR := [1, 2, 3], res := [2] }, mode := fun _ => .borrow }
noncomputable def O_laws_toCap : Oracle := Oracle.of []
noncomputable def L_laws_toCap : Loops := Loops.of []
theorem lf_laws_toCap : LoopsFn Try.prog C_laws_toCap O_laws_toCap 141 L_laws_toCap := LoopsFn.nil' (by kernel_rfl)
def out_laws_toCap (r : DCap) : AV × Store := out1 (.one (.dat tCap)) [] (r, ())
theorem w_laws_toCap (x : FAr [.one (.dat tCap)] []) : evBodyK Try.prog C_laws_toCap O_laws_toCap L_laws_toCap 141 (encAr [.one (.dat tCap)] [] x).1 (encAr [.one (.dat tCap)] [] x).2 (fun v s => some (v, s)) =
    laws_toCapK x.1 (fun r => some (out_laws_toCap r)) := by kernel_rfl
theorem sem_laws_toCap : ∀ x y, (fun x => laws_toCap x.1) x = some y → SemCall Try.prog 141 (encAr [.one (.dat tCap)] [] x).1 (encAr [.one (.dat tCap)] [] x).2 (out_laws_toCap y).1 (out_laws_toCap y).2 :=
  sem_of folP okP tabP (Oracle.of_ok Oracle.nil_ok) lf_laws_toCap fun x => (w_laws_toCap x).trans (laws_toCap_eq x.1 _)
noncomputable def c_laws_toCap : Con := Con.shape [.one (.dat tCap)] [] (fun x => laws_toCap x.1) out_laws_toCap
theorem ok_laws_toCap : ConOk Try.prog 141 c_laws_toCap := Con.shape_ok sem_laws_toCap

/-! 129 -/
def C_laws_toEntry : Cfg := { T := tab, hint := fun _ => { mu := [2, 3], keepR := [1, 2, 3], res := [2] }, mode := fun _ => .borrow }
noncomputable def O_laws_toEntry : Oracle := Oracle.of [(141, c_laws_toCap)]
noncomputable def L_laws_toEntry : Loops := Loops.of []
theorem lf_laws_toEntry : LoopsFn Try.prog C_laws_toEntry O_laws_toEntry 129 L_laws_toEntry := LoopsFn.nil' (by kernel_rfl)
def out_laws_toEntry (r : DEntry) : AV × Store := out1 (.one (.dat tEntry)) [] (r, ())
theorem w_laws_toEntry (x : FAr [.one (.dat tEntry)] []) : evBodyK Try.prog C_laws_toEntry O_laws_toEntry L_laws_toEntry 129 (encAr [.one (.dat tEntry)] [] x).1 (encAr [.one (.dat tEntry)] [] x).2 (fun v s => some (v, s)) =
    laws_toEntryK x.1 (fun r => some (out_laws_toEntry r)) := by kernel_rfl
theorem sem_laws_toEntry : ∀ x y, (fun x => laws_toEntry x.1) x = some y → SemCall Try.prog 129 (encAr [.one (.dat tEntry)] [] x).1 (encAr [.one (.dat tEntry)] [] x).2 (out_laws_toEntry y).1 (out_laws_toEntry y).2 :=
  sem_of folP okP tabP (Oracle.of_ok (Oracle.cons_ok ok_laws_toCap Oracle.nil_ok)) lf_laws_toEntry fun x => (w_laws_toEntry x).trans (laws_toEntry_eq x.1 _)
noncomputable def c_laws_toEntry : Con := Con.shape [.one (.dat tEntry)] [] (fun x => laws_toEntry x.1) out_laws_toEntry
theorem ok_laws_toEntry : ConOk Try.prog 129 c_laws_toEntry := Con.shape_ok sem_laws_toEntry

/-! 98 -/
def C_laws_toEntryS : Cfg := { T := tab, hint := fun _ => { mu := [7], keepR := [0, 2, 3, 4, 11], res := [2], keepL := [(0, [0, 3, 4])], keepX := [(0, [3]), (1, [0, 3, 4])] }, mode := fun _ => .borrow }
noncomputable def O_laws_toEntryS : Oracle := Oracle.of [(129, c_laws_toEntry)]
def sh_laws_toEntryS_l0 : List (Nat × S2) := [(0, .one (.dat (.sl tEntry))), (3, .one (.all 0)), (4, .one (.dat I))]
def bs_laws_toEntryS_l0 : List SB := [.data tEntry]
noncomputable def lc_laws_toEntryS_l0 : LCon := LCon.shape1 sh_laws_toEntryS_l0 bs_laws_toEntryS_l0 laws_toEntryS_l0 (fun a => (.exit 0, encSt [(3, .one (.all 0))] [.data tEntry] a))
noncomputable def L_laws_toEntryS : Loops := Loops.of [(0, lc_laws_toEntryS_l0)]
theorem r_laws_toEntryS_l0 (x : FSt sh_laws_toEntryS_l0 bs_laws_toEntryS_l0) : roundK C_laws_toEntryS.T (C_laws_toEntryS.hint 98) C_laws_toEntryS.mode O_laws_toEntryS L_laws_toEntryS 0 (lp Try.prog 98 0) (encSt sh_laws_toEntryS_l0 bs_laws_toEntryS_l0 x) (fun e s => some (e, s)) =
    laws_toEntryS_l0K x.1 x.2.1 x.2.2.1 (fun y => some (Ex.normal, encSt sh_laws_toEntryS_l0 bs_laws_toEntryS_l0 y)) (fun a => some (Ex.exit 0, encSt [(3, .one (.all 0))] [.data tEntry] a)) := by kernel_rfl
theorem lo_laws_toEntryS_l0 : LConOk C_laws_toEntryS.T (C_laws_toEntryS.hint 98) C_laws_toEntryS.mode O_laws_toEntryS L_laws_toEntryS 0 (lp Try.prog 98 0) lc_laws_toEntryS_l0 :=
  LCon.shape1_ok (fun a => by simp) fun x => (r_laws_toEntryS_l0 x).trans (laws_toEntryS_l0_eq x.1 x.2.1 x.2.2.1 _ _)
theorem lf_laws_toEntryS : LoopsFn Try.prog C_laws_toEntryS O_laws_toEntryS 98 L_laws_toEntryS := LoopsFn.all (by kernel_rfl) (by decide) ⟨lo_laws_toEntryS_l0, trivial⟩
def out_laws_toEntryS (r : (List DEntry)) : AV × Store := out1 (.one (.all 0)) [.data tEntry] (r, ())
theorem w_laws_toEntryS (x : FAr [.one (.dat (.sl tEntry))] []) : evBodyK Try.prog C_laws_toEntryS O_laws_toEntryS L_laws_toEntryS 98 (encAr [.one (.dat (.sl tEntry))] [] x).1 (encAr [.one (.dat (.sl tEntry))] [] x).2 (fun v s => some (v, s)) =
    laws_toEntrySK x.1 (fun r => some (out_laws_toEntryS r)) := by kernel_rfl
theorem sem_laws_toEntryS : ∀ x y, (fun x => laws_toEntryS x.1) x = some y → SemCall Try.prog 98 (encAr [.one (.dat (.sl tEntry))] [] x).1 (encAr [.one (.dat (.sl tEntry))] [] x).2 (out_laws_toEntryS y).1 (out_laws_toEntryS y).2 :=
  sem_of folP okP tabP (Oracle.of_ok (Oracle.cons_ok ok_laws_toEntry Oracle.nil_ok)) lf_laws_toEntryS fun x => (w_laws_toEntryS x).trans (laws_toEntryS_eq x.1 _)
noncomputable def c_laws_toEntryS : Con := Con.shape [.one (.dat (.sl tEntry))] [] (fun x => laws_toEntryS x.1) out_laws_toEntryS
theorem ok_laws_toEntryS : ConOk Try.prog 98 c_laws_toEntryS := Con.shape_ok sem_laws_toEntryS

/-! 99 -/
def C_laws_toIntS : Cfg := { T := tab, hint := fun _ => { mu := [7], keepR := [0, 2, 3, 4, 11], res := [2], keepL := [(0, [0, 3, 4])], keepX := [(0, [3]), (1, [0, 3, 4])] }, mode := fun _ => .borrow }
noncomputable def O_laws_toIntS : Oracle := Oracle.of []
def sh_laws_toIntS_l0 : List (Nat × S2) := [(0, .one (.dat (.sl I))), (3, .one (.all 0)), (4, .one (.dat I))]
def bs_laws_toIntS_l0 : List SB := [.data I]
noncomputable def lc_laws_toIntS_l0 : LCon := LCon.shape1 sh_laws_toIntS_l0 bs_laws_toIntS_l0 laws_toIntS_l0 (fun a => (.exit 0, encSt [(3, .one (.all 0))] [.data I] a))
noncomputable def L_laws_toIntS : Loops := Loops.of [(0, lc_laws_toIntS_l0)]
theorem r_laws_toIntS_l0 (x : FSt sh_laws_toIntS_l0 bs_laws_toIntS_l0) : roundK C_laws_toIntS.T (C_laws_toIntS.hint 99) C_laws_toIntS.mode O_laws_toIntS L_laws_toIntS 0 (lp Try.prog 99 0) (encSt sh_laws_toIntS_l0 bs_laws_toIntS_l0 x) (fun e s => some (e, s)) =
    laws_toIntS_l0K x.1 x.2.1 x.2.2.1 (fun y => some (Ex.normal, encSt sh_laws_toIntS_l0 bs_laws_toIntS_l0 y)) (fun a => some (Ex.exit 0, encSt [(3, .one (.all 0))] [.data I] a)) := by kernel_rfl
theorem lo_laws_toIntS_l0 : LConOk C_laws_toIntS.T (C_laws_toIntS.hint 99) C_laws_toIntS.mode O_laws_toIntS L_laws_toIntS 0 (lp Try.prog 99 0) lc_laws_toIntS_l0 :=
  LCon.shape1_ok (fun a => by simp) fun x => (r_laws_toIntS_l0 x).trans (laws_toIntS_l0_eq x.1 x.2.1 x.2.2.1 _ _)
theorem lf_laws_toIntS : LoopsFn Try.prog C_laws_toIntS O_laws_toIntS 99 L_laws_toIntS := LoopsFn.all (by kernel_rfl) (by decide) ⟨lo_laws_toIntS_l0, trivial⟩
def out_laws_toIntS (r : (List Int)) : AV × Store := out1 (.one (.all 0)) [.data I] (r, ())
theorem w_laws_toIntS (x : FAr [.one (.dat (.sl I))] []) : evBodyK Try.prog C_laws_toIntS O_laws_toIntS L_laws_toIntS 99 (encAr [.one (.dat (.sl I))] [] x).1 (encAr [.one (.dat (.sl I))] [] x).2 (fun v s => some (v, s)) =
    laws_toIntSK x.1 (fun r => some (out_laws_toIntS r)) := by kernel_rfl
theorem sem_laws_toIntS : ∀ x y, (fun x => laws_toIntS x.1) x = some y → SemCall Try.prog 99 (encAr [.one (.dat (.sl I))] [] x).1 (encAr [.one (.dat (.sl I))] [] x).2 (out_laws_toIntS y).1 (out_laws_toIntS y).2 :=
  sem_of folP okP tabP (Oracle.of_ok Oracle.nil_ok) lf_laws_toIntS fun x => (w_laws_toIntS x).trans (laws_toIntS_eq x.1 _)
noncomputable def c_laws_toIntS : Con := Con.shape [.one (.dat (.sl I))] [] (fun x => laws_toIntS x.1) out_laws_toIntS
theorem ok_laws_toIntS : ConOk Try.prog 99 c_laws_toIntS := Con.shape_ok sem_laws_toIntS

/-! 43 -/
def C_laws_toKernel : Cfg := { T := tab, hint := fun _ => { mu := [2, 3, 10, 14], keepR := [1, 2, 3], res := [2] }, mode := fun _ => .borrow }
noncomputable def O_laws_toKernel : Oracle := Oracle.of [(97, c_laws_toPiece), (98, c_laws_toEntryS), (99, c_laws_toIntS)]
noncomputable def L_laws_toKernel : Loops := Loops.of []
theorem lf_laws_toKernel : LoopsFn Try.prog C_laws_toKernel O_laws_toKernel 43 L_laws_toKernel := LoopsFn.nil' (by kernel_rfl)
def out_laws_toKernel (r : Int × Int × Int × Int × (List DEntry) × (List Int)) : AV × Store := out1 (.agg [.dat I, .dat I, .dat I, .all 0, .all 1, .dat I]) [.data tEntry, .data I] (r.1, r.2.1, r.2.2.1, r.2.2.2.1, r.2.2.2.2.1, r.2.2.2.2.2, ())
theorem w_laws_toKernel (x : FAr [.one (.dat tKernel)] []) : evBodyK Try.prog C_laws_toKernel O_laws_toKernel L_laws_toKernel 43 (encAr [.one (.dat tKernel)] [] x).1 (encAr [.one (.dat tKernel)] [] x).2 (fun v s => some (v, s)) =
    laws_toKernelK x.1 (fun r => some (out_laws_toKernel r)) := by kernel_rfl
theorem sem_laws_toKernel : ∀ x y, (fun x => laws_toKernel x.1) x = some y → SemCall Try.prog 43 (encAr [.one (.dat tKernel)] [] x).1 (encAr [.one (.dat tKernel)] [] x).2 (out_laws_toKernel y).1 (out_laws_toKernel y).2 :=
  sem_of folP okP tabP (Oracle.of_ok (Oracle.cons_ok ok_laws_toPiece (Oracle.cons_ok ok_laws_toEntryS (Oracle.cons_ok ok_laws_toIntS Oracle.nil_ok)))) lf_laws_toKernel fun x => (w_laws_toKernel x).trans (laws_toKernel_eq x.1 _)
noncomputable def c_laws_toKernel : Con := Con.shape [.one (.dat tKernel)] [] (fun x => laws_toKernel x.1) out_laws_toKernel
theorem ok_laws_toKernel : ConOk Try.prog 43 c_laws_toKernel := Con.shape_ok sem_laws_toKernel

/-! 8 -/
def C_laws_FnExactKernelValid : Cfg := { T := tab, hint := fun _ => { mu := [5], keepR := [1, 2, 3, 4, 5, 6, 11, 21, 26], res := [2], order := [(10, [(0, .read), (1, .forced), (2, .forced), (3, .forced), (4, .forced)])] }, mode := fun _ => .borrow }
noncomputable def O_laws_FnExactKernelValid : Oracle := Oracle.of [(23, c_spec_KernelValid), (26, c_impl_KernelValid), (34, c_laws_eqKernel), (42, c_laws_szKernel), (43, c_laws_toKernel)]
noncomputable def L_laws_FnExactKernelValid : Loops := Loops.of []
theorem lf_laws_FnExactKernelValid : LoopsFn Try.prog C_laws_FnExactKernelValid O_laws_FnExactKernelValid 8 L_laws_FnExactKernelValid := LoopsFn.nil' (by kernel_rfl)
def out_laws_FnExactKernelValid (r : Bool) : AV × Store := out1 (.one (.dat .bool)) [] (r, ())
theorem w_laws_FnExactKernelValid (x : FAr [.one (.dat tKernel)] []) : evBodyK Try.prog C_laws_FnExactKernelValid O_laws_FnExactKernelValid L_laws_FnExactKernelValid 8 (encAr [.one (.dat tKernel)] [] x).1 (encAr [.one (.dat tKernel)] [] x).2 (fun v s => some (v, s)) =
    laws_FnExactKernelValidK x.1 (fun r => some (out_laws_FnExactKernelValid r)) := by kernel_rfl
theorem sem_laws_FnExactKernelValid : ∀ x y, (fun x => laws_FnExactKernelValid x.1) x = some y → SemCall Try.prog 8 (encAr [.one (.dat tKernel)] [] x).1 (encAr [.one (.dat tKernel)] [] x).2 (out_laws_FnExactKernelValid y).1 (out_laws_FnExactKernelValid y).2 :=
  sem_of folP okP tabP (Oracle.of_ok (Oracle.cons_ok ok_spec_KernelValid (Oracle.cons_ok ok_impl_KernelValid (Oracle.cons_ok ok_laws_eqKernel (Oracle.cons_ok ok_laws_szKernel (Oracle.cons_ok ok_laws_toKernel Oracle.nil_ok)))))) lf_laws_FnExactKernelValid fun x => (w_laws_FnExactKernelValid x).trans (laws_FnExactKernelValid_eq x.1 _)
noncomputable def c_laws_FnExactKernelValid : Con := Con.shape [.one (.dat tKernel)] [] (fun x => laws_FnExactKernelValid x.1) out_laws_FnExactKernelValid
theorem ok_laws_FnExactKernelValid : ConOk Try.prog 8 c_laws_FnExactKernelValid := Con.shape_ok sem_laws_FnExactKernelValid

/-! 9 -/
def C_laws_FnNewKernel : Cfg := { T := tab, hint := fun _ => { mu := [5, 6], keepR := [0, 2, 3, 4, 5, 7, 10, 24, 38], res := [2], order := [(5, [(0, .read), (1, .read), (2, .forced), (3, .forced), (4, .forced), (5, .forced)])] }, mode := fun _ => .borrow }
noncomputable def O_laws_FnNewKernel : Oracle := Oracle.of [(22, c_laws_sameKernel), (24, c_laws_alive), (26, c_impl_KernelValid), (32, c_spec_NewKernel), (33, c_impl_NewKernel), (38, c_impl_SysRevoke), (41, c_spec_DrawNewKernel)]
noncomputable def L_laws_FnNewKernel : Loops := Loops.of []
theorem lf_laws_FnNewKernel : LoopsFn Try.prog C_laws_FnNewKernel O_laws_FnNewKernel 9 L_laws_FnNewKernel := LoopsFn.nil' (by kernel_rfl)
def out_laws_FnNewKernel (r : Bool) : AV × Store := out1 (.one (.dat .bool)) [] (r, ())
theorem w_laws_FnNewKernel (x : FAr [.one (.dat (.sl (.int .u8)))] []) : evBodyK Try.prog C_laws_FnNewKernel O_laws_FnNewKernel L_laws_FnNewKernel 9 (encAr [.one (.dat (.sl (.int .u8)))] [] x).1 (encAr [.one (.dat (.sl (.int .u8)))] [] x).2 (fun v s => some (v, s)) =
    laws_FnNewKernelK x.1 (fun r => some (out_laws_FnNewKernel r)) := by kernel_rfl
theorem sem_laws_FnNewKernel : ∀ x y, (fun x => laws_FnNewKernel x.1) x = some y → SemCall Try.prog 9 (encAr [.one (.dat (.sl (.int .u8)))] [] x).1 (encAr [.one (.dat (.sl (.int .u8)))] [] x).2 (out_laws_FnNewKernel y).1 (out_laws_FnNewKernel y).2 :=
  sem_of folP okP tabP (Oracle.of_ok (Oracle.cons_ok ok_laws_sameKernel (Oracle.cons_ok ok_laws_alive (Oracle.cons_ok ok_impl_KernelValid (Oracle.cons_ok ok_spec_NewKernel (Oracle.cons_ok ok_impl_NewKernel (Oracle.cons_ok ok_impl_SysRevoke (Oracle.cons_ok ok_spec_DrawNewKernel Oracle.nil_ok)))))))) lf_laws_FnNewKernel fun x => (w_laws_FnNewKernel x).trans (laws_FnNewKernel_eq x.1 _)
noncomputable def c_laws_FnNewKernel : Con := Con.shape [.one (.dat (.sl (.int .u8)))] [] (fun x => laws_FnNewKernel x.1) out_laws_FnNewKernel
theorem ok_laws_FnNewKernel : ConOk Try.prog 9 c_laws_FnNewKernel := Con.shape_ok sem_laws_FnNewKernel

/-! 100 -/
def C_spec_MovePlace : Cfg := { T := tab, hint := fun _ => { mu := [12, 15], keepR := [0, 1, 2, 6, 7, 8, 11, 43], res := [6, 7] }, mode := fun _ => .borrow }
noncomputable def O_spec_MovePlace : Oracle := Oracle.of [(66, c_spec_PlacesValid), (67, c_spec_l1In)]
noncomputable def L_spec_MovePlace : Loops := Loops.of []
theorem lf_spec_MovePlace : LoopsFn Try.prog C_spec_MovePlace O_spec_MovePlace 100 L_spec_MovePlace := LoopsFn.nil' (by kernel_rfl)
def out_spec_MovePlace (r : Bool × (List Int)) : AV × Store := outT [.one (.all 0), .one (.dat .bool)] [.data I] (r.1, r.2, ())
theorem w_spec_MovePlace (x : FAr [.one (.dat (.sl I)), .one (.dat I), .one (.dat I)] []) : evBodyK Try.prog C_spec_MovePlace O_spec_MovePlace L_spec_MovePlace 100 (encAr [.one (.dat (.sl I)), .one (.dat I), .one (.dat I)] [] x).1 (encAr [.one (.dat (.sl I)), .one (.dat I), .one (.dat I)] [] x).2 (fun v s => some (v, s)) =
    spec_MovePlaceK x.1 x.2.1 x.2.2.1 (fun r => some (out_spec_MovePlace r)) := by kernel_rfl
theorem sem_spec_MovePlace : ∀ x y, (fun x => spec_MovePlace x.1 x.2.1 x.2.2.1) x = some y → SemCall Try.prog 100 (encAr [.one (.dat (.sl I)), .one (.dat I), .one (.dat I)] [] x).1 (encAr [.one (.dat (.sl I)), .one (.dat I), .one (.dat I)] [] x).2 (out_spec_MovePlace y).1 (out_spec_MovePlace y).2 :=
  sem_of folP okP tabP (Oracle.of_ok (Oracle.cons_ok ok_spec_PlacesValid (Oracle.cons_ok ok_spec_l1In Oracle.nil_ok))) lf_spec_MovePlace fun x => (w_spec_MovePlace x).trans (spec_MovePlace_eq x.1 x.2.1 x.2.2.1 _)
noncomputable def c_spec_MovePlace : Con := Con.shape [.one (.dat (.sl I)), .one (.dat I), .one (.dat I)] [] (fun x => spec_MovePlace x.1 x.2.1 x.2.2.1) out_spec_MovePlace
theorem ok_spec_MovePlace : ConOk Try.prog 100 c_spec_MovePlace := Con.shape_ok sem_spec_MovePlace

/-! 44 -/
def C_spec_SysMove : Cfg := { T := tab, hint := fun _ => { mu := [6, 8, 16, 22], keepR := [1, 2, 3, 6, 7, 8, 9, 10, 13, 26], res := [6, 7], fillR := true }, mode := fun _ => .borrow }
noncomputable def O_spec_SysMove : Oracle := Oracle.of [(23, c_spec_KernelValid), (60, c_spec_l25Copy), (100, c_spec_MovePlace)]
noncomputable def L_spec_SysMove : Loops := Loops.of []
theorem lf_spec_SysMove : LoopsFn Try.prog C_spec_SysMove O_spec_SysMove 44 L_spec_SysMove := LoopsFn.nil' (by kernel_rfl)
def out_spec_SysMove (r : Int × Int × Int × Int × Int × (List DEntry) × (List Int)) : AV × Store := outT [.agg [.dat I, .dat I, .dat I, .all 0, .all 1, .dat I], .one (.dat I)] [.data tEntry, .data I] (r.1, r.2.1, r.2.2.1, r.2.2.2.1, r.2.2.2.2.1, r.2.2.2.2.2.1, r.2.2.2.2.2.2, ())
theorem w_spec_SysMove (x : FAr [.one (.dat tKernel), .one (.dat I), .one (.dat I)] []) : evBodyK Try.prog C_spec_SysMove O_spec_SysMove L_spec_SysMove 44 (encAr [.one (.dat tKernel), .one (.dat I), .one (.dat I)] [] x).1 (encAr [.one (.dat tKernel), .one (.dat I), .one (.dat I)] [] x).2 (fun v s => some (v, s)) =
    spec_SysMoveK x.1 x.2.1 x.2.2.1 (fun r => some (out_spec_SysMove r)) := by kernel_rfl
theorem sem_spec_SysMove : ∀ x y, (fun x => spec_SysMove x.1 x.2.1 x.2.2.1) x = some y → SemCall Try.prog 44 (encAr [.one (.dat tKernel), .one (.dat I), .one (.dat I)] [] x).1 (encAr [.one (.dat tKernel), .one (.dat I), .one (.dat I)] [] x).2 (out_spec_SysMove y).1 (out_spec_SysMove y).2 :=
  sem_of folP okP tabP (Oracle.of_ok (Oracle.cons_ok ok_spec_KernelValid (Oracle.cons_ok ok_spec_l25Copy (Oracle.cons_ok ok_spec_MovePlace Oracle.nil_ok)))) lf_spec_SysMove fun x => (w_spec_SysMove x).trans (spec_SysMove_eq x.1 x.2.1 x.2.2.1 _)
noncomputable def c_spec_SysMove : Con := Con.shape [.one (.dat tKernel), .one (.dat I), .one (.dat I)] [] (fun x => spec_SysMove x.1 x.2.1 x.2.2.1) out_spec_SysMove
theorem ok_spec_SysMove : ConOk Try.prog 44 c_spec_SysMove := Con.shape_ok sem_spec_SysMove


end Go.Ev
