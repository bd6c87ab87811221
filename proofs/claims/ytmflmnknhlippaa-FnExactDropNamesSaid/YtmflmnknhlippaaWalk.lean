/-
  The walks: the program computes what the functions of plain data compute, wherever these come to a result; printed by a program of the prover.
-/
import Derived.Test.YtmflmnknhlippaaDefs
import Derived.Test.YtmflmnknhlippaaProg
import Derived.Test.YtmflmnknhlippaaAlive
namespace Go.Ev
open Go.Proofs
set_option linter.unusedVariables false
set_option linter.unusedSimpArgs false
set_option maxRecDepth 100000
def tys : List (Nat × Ty) := [(3, I), (4, .bool), (5, (.int .u8)), (9, .str), (22, (.sl (.int .u8))), (23, (.sl tName)), (27, tName), (30, (.sl tName)), (44, tName), (67, tl20Rd), (79, (.sl .str)), (82, (.int .u64))]
def tups : List (Nat × List Ty) := [(32, [I, .bool]), (37, [(.sl tName), I]), (41, [(.sl tName), .str]), (46, [(.sl tName), .bool]), (50, [(.sl tName), tName])]
def tab : Tab := tabOf tys tups
theorem okP : progOk Try.prog = true := by kernel_rfl
theorem tabP : TabOk Try.prog tab := tabOf_ok (by kernel_rfl)
theorem folP : Try.prog.follows .mixedOrders = true := by kernel_rfl
/-! 33 -/
def C_spec_l20Open : Cfg := { T := tab, hint := fun _ => { mu := [10], keepR := [0, 2, 5], res := [2] }, mode := fun _ => .borrow }
noncomputable def O_spec_l20Open : Oracle := Oracle.of []
noncomputable def L_spec_l20Open : Loops := Loops.of []
theorem lf_spec_l20Open : LoopsFn Try.prog C_spec_l20Open O_spec_l20Open 33 L_spec_l20Open := LoopsFn.nil' (by kernel_rfl)
def out_spec_l20Open (r : Dl20Rd) : AV × Store := out1 (.one (.ptr 0 0 0)) [.one tl20Rd] (r, ())
theorem w_spec_l20Open (x : FAr [.one (.dat (.sl (.int .u8)))] []) : evBodyK Try.prog C_spec_l20Open O_spec_l20Open L_spec_l20Open 33 (encAr [.one (.dat (.sl (.int .u8)))] [] x).1 (encAr [.one (.dat (.sl (.int .u8)))] [] x).2 (fun v s => some (v, s)) =
    spec_l20OpenK x.1 (fun r => some (out_spec_l20Open r)) := by kernel_rfl
theorem sem_spec_l20Open : ∀ x y, (fun x => spec_l20Open x.1) x = some y → SemCall Try.prog 33 (encAr [.one (.dat (.sl (.int .u8)))] [] x).1 (encAr [.one (.dat (.sl (.int .u8)))] [] x).2 (out_spec_l20Open y).1 (out_spec_l20Open y).2 :=
  sem_of folP okP tabP (Oracle.of_ok Oracle.nil_ok) lf_spec_l20Open fun x => (w_spec_l20Open x).trans (spec_l20Open_eq x.1 _)
noncomputable def c_spec_l20Open : Con := Con.shape [.one (.dat (.sl (.int .u8)))] [] (fun x => spec_l20Open x.1) out_spec_l20Open
theorem ok_spec_l20Open : ConOk Try.prog 33 c_spec_l20Open := Con.shape_ok sem_spec_l20Open

/-! 46 -/
def C_spec_l20Rd_pick : Cfg := { T := tab, hint := fun _ => { keepR := [0, 1, 4, 5, 6, 24, 36], res := [4], base := 1, order := [(7, [(0, .read), (1, .read), (2, .read), (3, .read), (4, .read), (5, .read), (6, .read), (7, .read), (8, .read), (9, .read), (10, .read), (11, .read), (12, .read), (13, .read), (14, .read), (15, .read), (16, .read), (17, .read), (18, .read), (19, .read), (20, .read), (21, .read), (22, .read), (23, .read), (24, .read), (25, .read), (26, .read), (27, .read), (28, .read), (29, .read), (30, .read), (31, .read), (32, .read), (33, .read), (34, .read), (35, .read), (36, .read), (37, .forced), (38, .forced), (39, .forced), (40, .forced), (41, .forced), (42, .forced), (43, .forced), (44, .forced), (45, .forced)])] }, mode := fun _ => .borrow }
noncomputable def O_spec_l20Rd_pick : Oracle := Oracle.of []
noncomputable def L_spec_l20Rd_pick : Loops := Loops.of []
theorem lf_spec_l20Rd_pick : LoopsFn Try.prog C_spec_l20Rd_pick O_spec_l20Rd_pick 46 L_spec_l20Rd_pick := LoopsFn.nil' (by kernel_rfl)
def out_spec_l20Rd_pick (r : Int × Dl20Rd) : AV × Store := out1 (.one (.dat I)) [.one tl20Rd] (r.1, r.2, ())
theorem w_spec_l20Rd_pick (x : FAr [.one (.ptr 0 0 0), .one (.dat I)] [.one tl20Rd]) : evBodyK Try.prog C_spec_l20Rd_pick O_spec_l20Rd_pick L_spec_l20Rd_pick 46 (encAr [.one (.ptr 0 0 0), .one (.dat I)] [.one tl20Rd] x).1 (encAr [.one (.ptr 0 0 0), .one (.dat I)] [.one tl20Rd] x).2 (fun v s => some (v, s)) =
    spec_l20Rd_pickK x.1 x.2.1 (fun r => some (out_spec_l20Rd_pick r)) := by kernel_rfl
theorem sem_spec_l20Rd_pick : ∀ x y, (fun x => spec_l20Rd_pick x.1 x.2.1) x = some y → SemCall Try.prog 46 (encAr [.one (.ptr 0 0 0), .one (.dat I)] [.one tl20Rd] x).1 (encAr [.one (.ptr 0 0 0), .one (.dat I)] [.one tl20Rd] x).2 (out_spec_l20Rd_pick y).1 (out_spec_l20Rd_pick y).2 :=
  sem_of folP okP tabP (Oracle.of_ok Oracle.nil_ok) lf_spec_l20Rd_pick fun x => (w_spec_l20Rd_pick x).trans (spec_l20Rd_pick_eq x.1 x.2.1 _)
noncomputable def c_spec_l20Rd_pick : Con := Con.shape [.one (.ptr 0 0 0), .one (.dat I)] [.one tl20Rd] (fun x => spec_l20Rd_pick x.1 x.2.1) out_spec_l20Rd_pick
theorem ok_spec_l20Rd_pick : ConOk Try.prog 46 c_spec_l20Rd_pick := Con.shape_ok sem_spec_l20Rd_pick

/-! 49 -/
def C_spec_l20Rd_odd : Cfg := { T := tab, hint := fun _ => { keepR := [0, 1, 4], res := [4], base := 1 }, mode := modeOf [(46, .sub)] }
noncomputable def O_spec_l20Rd_odd : Oracle := Oracle.of [(46, c_spec_l20Rd_pick)]
noncomputable def L_spec_l20Rd_odd : Loops := Loops.of []
theorem lf_spec_l20Rd_odd : LoopsFn Try.prog C_spec_l20Rd_odd O_spec_l20Rd_odd 49 L_spec_l20Rd_odd := LoopsFn.nil' (by kernel_rfl)
def out_spec_l20Rd_odd (r : Bool × Dl20Rd) : AV × Store := out1 (.one (.dat .bool)) [.one tl20Rd] (r.1, r.2, ())
theorem w_spec_l20Rd_odd (x : FAr [.one (.ptr 0 0 0), .one (.dat I)] [.one tl20Rd]) : evBodyK Try.prog C_spec_l20Rd_odd O_spec_l20Rd_odd L_spec_l20Rd_odd 49 (encAr [.one (.ptr 0 0 0), .one (.dat I)] [.one tl20Rd] x).1 (encAr [.one (.ptr 0 0 0), .one (.dat I)] [.one tl20Rd] x).2 (fun v s => some (v, s)) =
    spec_l20Rd_oddK x.1 x.2.1 (fun r => some (out_spec_l20Rd_odd r)) := by kernel_rfl
theorem sem_spec_l20Rd_odd : ∀ x y, (fun x => spec_l20Rd_odd x.1 x.2.1) x = some y → SemCall Try.prog 49 (encAr [.one (.ptr 0 0 0), .one (.dat I)] [.one tl20Rd] x).1 (encAr [.one (.ptr 0 0 0), .one (.dat I)] [.one tl20Rd] x).2 (out_spec_l20Rd_odd y).1 (out_spec_l20Rd_odd y).2 :=
  sem_of folP okP tabP (Oracle.of_ok (Oracle.cons_ok ok_spec_l20Rd_pick Oracle.nil_ok)) lf_spec_l20Rd_odd fun x => (w_spec_l20Rd_odd x).trans (spec_l20Rd_odd_eq x.1 x.2.1 _)
noncomputable def c_spec_l20Rd_odd : Con := Con.shape [.one (.ptr 0 0 0), .one (.dat I)] [.one tl20Rd] (fun x => spec_l20Rd_odd x.1 x.2.1) out_spec_l20Rd_odd
theorem ok_spec_l20Rd_odd : ConOk Try.prog 49 c_spec_l20Rd_odd := Con.shape_ok sem_spec_l20Rd_odd

/-! 45 -/
def C_spec_l20Text : Cfg := { T := tab, hint := fun _ => { keepR := [0, 1, 4, 7], res := [4], base := 1 }, mode := modeOf [(46, .sub), (49, .sub)] }
noncomputable def O_spec_l20Text : Oracle := Oracle.of [(46, c_spec_l20Rd_pick), (49, c_spec_l20Rd_odd)]
noncomputable def L_spec_l20Text : Loops := Loops.of []
theorem lf_spec_l20Text : LoopsFn Try.prog C_spec_l20Text O_spec_l20Text 45 L_spec_l20Text := LoopsFn.nil' (by kernel_rfl)
def out_spec_l20Text (r : ByteArray × Dl20Rd) : AV × Store := out1 (.one (.dat .str)) [.one tl20Rd] (r.1, r.2, ())
theorem w_spec_l20Text (x : FAr [.one (.ptr 0 0 0), .one (.dat I)] [.one tl20Rd]) : evBodyK Try.prog C_spec_l20Text O_spec_l20Text L_spec_l20Text 45 (encAr [.one (.ptr 0 0 0), .one (.dat I)] [.one tl20Rd] x).1 (encAr [.one (.ptr 0 0 0), .one (.dat I)] [.one tl20Rd] x).2 (fun v s => some (v, s)) =
    spec_l20TextK x.1 x.2.1 (fun r => some (out_spec_l20Text r)) := by kernel_rfl
theorem sem_spec_l20Text : ∀ x y, (fun x => spec_l20Text x.1 x.2.1) x = some y → SemCall Try.prog 45 (encAr [.one (.ptr 0 0 0), .one (.dat I)] [.one tl20Rd] x).1 (encAr [.one (.ptr 0 0 0), .one (.dat I)] [.one tl20Rd] x).2 (out_spec_l20Text y).1 (out_spec_l20Text y).2 :=
  sem_of folP okP tabP (Oracle.of_ok (Oracle.cons_ok ok_spec_l20Rd_pick (Oracle.cons_ok ok_spec_l20Rd_odd Oracle.nil_ok))) lf_spec_l20Text fun x => (w_spec_l20Text x).trans (spec_l20Text_eq x.1 x.2.1 _)
noncomputable def c_spec_l20Text : Con := Con.shape [.one (.ptr 0 0 0), .one (.dat I)] [.one tl20Rd] (fun x => spec_l20Text x.1 x.2.1) out_spec_l20Text
theorem ok_spec_l20Text : ConOk Try.prog 45 c_spec_l20Text := Con.shape_ok sem_spec_l20Text

/-! 36 -/
def C_spec_l1In : Cfg := { T := tab, hint := fun _ => { keepR := [0, 1, 2, 6], res := [6] }, mode := fun _ => .borrow }
noncomputable def O_spec_l1In : Oracle := Oracle.of []
noncomputable def L_spec_l1In : Loops := Loops.of []
theorem lf_spec_l1In : LoopsFn Try.prog C_spec_l1In O_spec_l1In 36 L_spec_l1In := LoopsFn.nil' (by kernel_rfl)
def out_spec_l1In (r : Bool) : AV × Store := out1 (.one (.dat .bool)) [] (r, ())
theorem w_spec_l1In (x : FAr [.one (.dat I), .one (.dat I), .one (.dat I)] []) : evBodyK Try.prog C_spec_l1In O_spec_l1In L_spec_l1In 36 (encAr [.one (.dat I), .one (.dat I), .one (.dat I)] [] x).1 (encAr [.one (.dat I), .one (.dat I), .one (.dat I)] [] x).2 (fun v s => some (v, s)) =
    spec_l1InK x.1 x.2.1 x.2.2.1 (fun r => some (out_spec_l1In r)) := by kernel_rfl
theorem sem_spec_l1In : ∀ x y, (fun x => spec_l1In x.1 x.2.1 x.2.2.1) x = some y → SemCall Try.prog 36 (encAr [.one (.dat I), .one (.dat I), .one (.dat I)] [] x).1 (encAr [.one (.dat I), .one (.dat I), .one (.dat I)] [] x).2 (out_spec_l1In y).1 (out_spec_l1In y).2 :=
  sem_of folP okP tabP (Oracle.of_ok Oracle.nil_ok) lf_spec_l1In fun x => (w_spec_l1In x).trans (spec_l1In_eq x.1 x.2.1 x.2.2.1 _)
noncomputable def c_spec_l1In : Con := Con.shape [.one (.dat I), .one (.dat I), .one (.dat I)] [] (fun x => spec_l1In x.1 x.2.1 x.2.2.1) out_spec_l1In
theorem ok_spec_l1In : ConOk Try.prog 36 c_spec_l1In := Con.shape_ok sem_spec_l1In

/-! 35 -/
def C_spec_l22Text : Cfg := { T := tab, hint := fun _ => { keepR := [0, 2, 3, 7, 19], res := [2], keepL := [(0, [0, 3])], keepX := [(0, [0]), (1, [0, 3])] }, mode := fun _ => .borrow }
noncomputable def O_spec_l22Text : Oracle := Oracle.of [(36, c_spec_l1In)]
def sh_spec_l22Text_l0 : List (Nat × S2) := [(0, .one (.dat .str)), (3, .one (.dat I))]
def bs_spec_l22Text_l0 : List SB := []
noncomputable def lc_spec_l22Text_l0 : LCon := LCon.shape sh_spec_l22Text_l0 bs_spec_l22Text_l0 spec_l22Text_l0 (fun a => (.exit 0, encSt [(0, .one (.dat .str))] [] a)) (fun b => encSt [(2, .one (.dat .bool))] [] b)
noncomputable def L_spec_l22Text : Loops := Loops.of [(0, lc_spec_l22Text_l0)]
theorem r_spec_l22Text_l0 (x : FSt sh_spec_l22Text_l0 bs_spec_l22Text_l0) : roundK C_spec_l22Text.T (C_spec_l22Text.hint 35) C_spec_l22Text.mode O_spec_l22Text L_spec_l22Text 0 (lp Try.prog 35 0) (encSt sh_spec_l22Text_l0 bs_spec_l22Text_l0 x) (fun e s => some (e, s)) =
    spec_l22Text_l0K x.1 x.2.1 (fun y => some (Ex.normal, encSt sh_spec_l22Text_l0 bs_spec_l22Text_l0 y)) (fun a => some (Ex.exit 0, encSt [(0, .one (.dat .str))] [] a)) (fun b => some (Ex.ret, encSt [(2, .one (.dat .bool))] [] b)) := by kernel_rfl
theorem lo_spec_l22Text_l0 : LConOk C_spec_l22Text.T (C_spec_l22Text.hint 35) C_spec_l22Text.mode O_spec_l22Text L_spec_l22Text 0 (lp Try.prog 35 0) lc_spec_l22Text_l0 :=
  LCon.shape_ok (fun a => by simp) fun x => (r_spec_l22Text_l0 x).trans (spec_l22Text_l0_eq x.1 x.2.1 _ _ _)
theorem lf_spec_l22Text : LoopsFn Try.prog C_spec_l22Text O_spec_l22Text 35 L_spec_l22Text := LoopsFn.all (by kernel_rfl) (by decide) ⟨lo_spec_l22Text_l0, trivial⟩
def out_spec_l22Text (r : Bool) : AV × Store := out1 (.one (.dat .bool)) [] (r, ())
theorem w_spec_l22Text (x : FAr [.one (.dat .str)] []) : evBodyK Try.prog C_spec_l22Text O_spec_l22Text L_spec_l22Text 35 (encAr [.one (.dat .str)] [] x).1 (encAr [.one (.dat .str)] [] x).2 (fun v s => some (v, s)) =
    spec_l22TextK x.1 (fun r => some (out_spec_l22Text r)) := by kernel_rfl
theorem sem_spec_l22Text : ∀ x y, (fun x => spec_l22Text x.1) x = some y → SemCall Try.prog 35 (encAr [.one (.dat .str)] [] x).1 (encAr [.one (.dat .str)] [] x).2 (out_spec_l22Text y).1 (out_spec_l22Text y).2 :=
  sem_of folP okP tabP (Oracle.of_ok (Oracle.cons_ok ok_spec_l1In Oracle.nil_ok)) lf_spec_l22Text fun x => (w_spec_l22Text x).trans (spec_l22Text_eq x.1 _)
noncomputable def c_spec_l22Text : Con := Con.shape [.one (.dat .str)] [] (fun x => spec_l22Text x.1) out_spec_l22Text
theorem ok_spec_l22Text : ConOk Try.prog 35 c_spec_l22Text := Con.shape_ok sem_spec_l22Text

/-! 13 -/
def C_spec_NamesValid : Cfg := { T := tab, hint := fun _ => { keepR := [0, 2, 3, 7, 43], res := [2], order := [(4, [(0, .read), (1, .forced), (2, .forced), (3, .forced), (4, .forced), (5, .forced), (6, .forced), (7, .forced), (8, .forced), (9, .forced), (10, .forced), (11, .read), (12, .read), (13, .read), (14, .read), (15, .read), (16, .read), (17, .read), (18, .forced), (19, .forced), (20, .forced), (21, .forced), (22, .forced), (23, .forced), (24, .forced), (25, .forced), (26, .read), (27, .forced), (28, .forced), (29, .forced), (30, .forced), (31, .forced), (32, .forced), (33, .forced)])], keepL := [(0, [0, 3])], keepX := [(0, [0]), (1, [0, 3])] }, mode := fun _ => .borrow }
noncomputable def O_spec_NamesValid : Oracle := Oracle.of [(35, c_spec_l22Text), (36, c_spec_l1In)]
def sh_spec_NamesValid_l0 : List (Nat × S2) := [(0, .one (.dat (.sl tName))), (3, .one (.dat I))]
def bs_spec_NamesValid_l0 : List SB := []
noncomputable def lc_spec_NamesValid_l0 : LCon := LCon.shape sh_spec_NamesValid_l0 bs_spec_NamesValid_l0 spec_NamesValid_l0 (fun a => (.exit 0, encSt [(0, .one (.dat (.sl tName)))] [] a)) (fun b => encSt [(2, .one (.dat .bool))] [] b)
noncomputable def L_spec_NamesValid : Loops := Loops.of [(0, lc_spec_NamesValid_l0)]
theorem r_spec_NamesValid_l0 (x : FSt sh_spec_NamesValid_l0 bs_spec_NamesValid_l0) : roundK C_spec_NamesValid.T (C_spec_NamesValid.hint 13) C_spec_NamesValid.mode O_spec_NamesValid L_spec_NamesValid 0 (lp Try.prog 13 0) (encSt sh_spec_NamesValid_l0 bs_spec_NamesValid_l0 x) (fun e s => some (e, s)) =
    spec_NamesValid_l0K x.1 x.2.1 (fun y => some (Ex.normal, encSt sh_spec_NamesValid_l0 bs_spec_NamesValid_l0 y)) (fun a => some (Ex.exit 0, encSt [(0, .one (.dat (.sl tName)))] [] a)) (fun b => some (Ex.ret, encSt [(2, .one (.dat .bool))] [] b)) := by kernel_rfl
theorem lo_spec_NamesValid_l0 : LConOk C_spec_NamesValid.T (C_spec_NamesValid.hint 13) C_spec_NamesValid.mode O_spec_NamesValid L_spec_NamesValid 0 (lp Try.prog 13 0) lc_spec_NamesValid_l0 :=
  LCon.shape_ok (fun a => by simp) fun x => (r_spec_NamesValid_l0 x).trans (spec_NamesValid_l0_eq x.1 x.2.1 _ _ _)
theorem lf_spec_NamesValid : LoopsFn Try.prog C_spec_NamesValid O_spec_NamesValid 13 L_spec_NamesValid := LoopsFn.all (by kernel_rfl) (by decide) ⟨lo_spec_NamesValid_l0, trivial⟩
def out_spec_NamesValid (r : Bool) : AV × Store := out1 (.one (.dat .bool)) [] (r, ())
theorem w_spec_NamesValid (x : FAr [.one (.dat (.sl tName))] []) : evBodyK Try.prog C_spec_NamesValid O_spec_NamesValid L_spec_NamesValid 13 (encAr [.one (.dat (.sl tName))] [] x).1 (encAr [.one (.dat (.sl tName))] [] x).2 (fun v s => some (v, s)) =
    spec_NamesValidK x.1 (fun r => some (out_spec_NamesValid r)) := by kernel_rfl
theorem sem_spec_NamesValid : ∀ x y, (fun x => spec_NamesValid x.1) x = some y → SemCall Try.prog 13 (encAr [.one (.dat (.sl tName))] [] x).1 (encAr [.one (.dat (.sl tName))] [] x).2 (out_spec_NamesValid y).1 (out_spec_NamesValid y).2 :=
  sem_of folP okP tabP (Oracle.of_ok (Oracle.cons_ok ok_spec_l22Text (Oracle.cons_ok ok_spec_l1In Oracle.nil_ok))) lf_spec_NamesValid fun x => (w_spec_NamesValid x).trans (spec_NamesValid_eq x.1 _)
noncomputable def c_spec_NamesValid : Con := Con.shape [.one (.dat (.sl tName))] [] (fun x => spec_NamesValid x.1) out_spec_NamesValid
theorem ok_spec_NamesValid : ConOk Try.prog 13 c_spec_NamesValid := Con.shape_ok sem_spec_NamesValid

/-! 28 -/
def C_spec_PutName : Cfg := { T := tab, hint := fun _ => { mu := [23, 42, 79, 82, 86], keepR := [0, 3, 4, 5, 6, 7, 22, 37, 56, 64, 73], res := [4, 5], order := [(4, [(0, .read), (1, .forced), (2, .forced), (3, .forced), (4, .forced), (5, .read), (6, .read), (7, .read), (8, .read), (9, .read), (10, .forced), (11, .forced), (12, .forced), (13, .forced)]), (7, [(0, .read), (1, .forced), (2, .forced), (3, .forced), (4, .forced), (5, .read), (6, .read), (7, .read), (8, .read), (9, .read), (10, .forced), (11, .forced), (12, .forced), (13, .forced)]), (8, [(0, .read), (1, .read), (2, .read), (3, .read), (4, .read), (5, .forced), (6, .forced), (7, .forced)]), (14, [(0, .read), (1, .read), (2, .read), (3, .read), (5, .pure), (6, .pure), (8, .pure), (9, .pure), (10, .pure), (4, .forced), (7, .forced), (11, .forced), (12, .forced), (13, .forced)])], keepL := [(0, [0, 3, 6])], keepX := [(0, [0, 3, 6]), (1, [0, 3, 6])] }, mode := fun _ => .borrow }
noncomputable def O_spec_PutName : Oracle := Oracle.of [(13, c_spec_NamesValid), (35, c_spec_l22Text), (36, c_spec_l1In)]
def sh_spec_PutName_l0 : List (Nat × S2) := [(0, .one (.dat (.sl tName))), (3, .one (.cdat tName 0)), (6, .one (.dat I))]
def bs_spec_PutName_l0 : List SB := []
noncomputable def lc_spec_PutName_l0 : LCon := LCon.shape1 sh_spec_PutName_l0 bs_spec_PutName_l0 spec_PutName_l0 (fun a => (.exit 0, encSt [(0, .one (.dat (.sl tName))), (3, .one (.cdat tName 0)), (6, .one (.dat I))] [] a))
noncomputable def L_spec_PutName : Loops := Loops.of [(0, lc_spec_PutName_l0)]
theorem r_spec_PutName_l0 (x : FSt sh_spec_PutName_l0 bs_spec_PutName_l0) : roundK C_spec_PutName.T (C_spec_PutName.hint 28) C_spec_PutName.mode O_spec_PutName L_spec_PutName 0 (lp Try.prog 28 0) (encSt sh_spec_PutName_l0 bs_spec_PutName_l0 x) (fun e s => some (e, s)) =
    spec_PutName_l0K x.1 x.2.1 x.2.2.1 (fun y => some (Ex.normal, encSt sh_spec_PutName_l0 bs_spec_PutName_l0 y)) (fun a => some (Ex.exit 0, encSt [(0, .one (.dat (.sl tName))), (3, .one (.cdat tName 0)), (6, .one (.dat I))] [] a)) := by kernel_rfl
theorem lo_spec_PutName_l0 : LConOk C_spec_PutName.T (C_spec_PutName.hint 28) C_spec_PutName.mode O_spec_PutName L_spec_PutName 0 (lp Try.prog 28 0) lc_spec_PutName_l0 :=
  LCon.shape1_ok (fun a => by simp) fun x => (r_spec_PutName_l0 x).trans (spec_PutName_l0_eq x.1 x.2.1 x.2.2.1 _ _)
theorem lf_spec_PutName : LoopsFn Try.prog C_spec_PutName O_spec_PutName 28 L_spec_PutName := LoopsFn.all (by kernel_rfl) (by decide) ⟨lo_spec_PutName_l0, trivial⟩
def out_spec_PutName (r : Bool × (List DName)) : AV × Store := outT [.one (.all 0), .one (.dat .bool)] [.data tName] (r.1, r.2, ())
theorem w_spec_PutName (x : FAr [.one (.dat (.sl tName)), .one (.dat tName)] []) : evBodyK Try.prog C_spec_PutName O_spec_PutName L_spec_PutName 28 (encAr [.one (.dat (.sl tName)), .one (.dat tName)] [] x).1 (encAr [.one (.dat (.sl tName)), .one (.dat tName)] [] x).2 (fun v s => some (v, s)) =
    spec_PutNameK x.1 x.2.1 (fun r => some (out_spec_PutName r)) := by kernel_rfl
theorem sem_spec_PutName : ∀ x y, (fun x => spec_PutName x.1 x.2.1) x = some y → SemCall Try.prog 28 (encAr [.one (.dat (.sl tName)), .one (.dat tName)] [] x).1 (encAr [.one (.dat (.sl tName)), .one (.dat tName)] [] x).2 (out_spec_PutName y).1 (out_spec_PutName y).2 :=
  sem_of folP okP tabP (Oracle.of_ok (Oracle.cons_ok ok_spec_NamesValid (Oracle.cons_ok ok_spec_l22Text (Oracle.cons_ok ok_spec_l1In Oracle.nil_ok)))) lf_spec_PutName fun x => (w_spec_PutName x).trans (spec_PutName_eq x.1 x.2.1 _)
noncomputable def c_spec_PutName : Con := Con.shape [.one (.dat (.sl tName)), .one (.dat tName)] [] (fun x => spec_PutName x.1 x.2.1) out_spec_PutName
theorem ok_spec_PutName : ConOk Try.prog 28 c_spec_PutName := Con.shape_ok sem_spec_PutName

/-! 32 -/
def C_spec_l20Names : Cfg := { T := tab, hint := fun _ => { mu := [7, 23, 34, 40, 47], keepR := [0, 1, 4, 5, 6, 11, 28, 30, 35, 41], res := [4], base := 1, keepL := [(0, [0, 1, 5, 6])], keepX := [(0, [0, 1, 5]), (1, [0, 1, 5, 6]), (2, [5])] }, mode := modeOf [(45, .sub), (46, .sub), (49, .sub)] }
noncomputable def O_spec_l20Names : Oracle := Oracle.of [(28, c_spec_PutName), (45, c_spec_l20Text), (46, c_spec_l20Rd_pick), (49, c_spec_l20Rd_odd)]
def sh_spec_l20Names_l0 : List (Nat × S2) := [(0, .one (.ptr 0 0 0)), (1, .one (.dat I)), (5, .one (.all 1)), (6, .one (.dat I))]
def bs_spec_l20Names_l0 : List SB := [.one tl20Rd, .data tName]
noncomputable def lc_spec_l20Names_l0 : LCon := LCon.shape1 sh_spec_l20Names_l0 bs_spec_l20Names_l0 spec_l20Names_l0 (fun a => (.exit 0, encSt [(0, .one (.ptr 0 0 0)), (1, .one (.dat I)), (5, .one (.all 1))] [.one tl20Rd, .data tName] a))
noncomputable def L_spec_l20Names : Loops := Loops.of [(0, lc_spec_l20Names_l0)]
theorem r_spec_l20Names_l0 (x : FSt sh_spec_l20Names_l0 bs_spec_l20Names_l0) : roundK C_spec_l20Names.T (C_spec_l20Names.hint 32) C_spec_l20Names.mode O_spec_l20Names L_spec_l20Names 0 (lp Try.prog 32 0) (encSt sh_spec_l20Names_l0 bs_spec_l20Names_l0 x) (fun e s => some (e, s)) =
    spec_l20Names_l0K x.1 x.2.1 x.2.2.1 x.2.2.2.1 (fun y => some (Ex.normal, encSt sh_spec_l20Names_l0 bs_spec_l20Names_l0 y)) (fun a => some (Ex.exit 0, encSt [(0, .one (.ptr 0 0 0)), (1, .one (.dat I)), (5, .one (.all 1))] [.one tl20Rd, .data tName] a)) := by kernel_rfl
theorem lo_spec_l20Names_l0 : LConOk C_spec_l20Names.T (C_spec_l20Names.hint 32) C_spec_l20Names.mode O_spec_l20Names L_spec_l20Names 0 (lp Try.prog 32 0) lc_spec_l20Names_l0 :=
  LCon.shape1_ok (fun a => by simp) fun x => (r_spec_l20Names_l0 x).trans (spec_l20Names_l0_eq x.1 x.2.1 x.2.2.1 x.2.2.2.1 _ _)
theorem lf_spec_l20Names : LoopsFn Try.prog C_spec_l20Names O_spec_l20Names 32 L_spec_l20Names := LoopsFn.all (by kernel_rfl) (by decide) ⟨lo_spec_l20Names_l0, trivial⟩
def out_spec_l20Names (r : Dl20Rd × (List DName)) : AV × Store := out1 (.one (.all 1)) [.one tl20Rd, .data tName] (r.1, r.2, ())
theorem w_spec_l20Names (x : FAr [.one (.ptr 0 0 0), .one (.dat I)] [.one tl20Rd]) : evBodyK Try.prog C_spec_l20Names O_spec_l20Names L_spec_l20Names 32 (encAr [.one (.ptr 0 0 0), .one (.dat I)] [.one tl20Rd] x).1 (encAr [.one (.ptr 0 0 0), .one (.dat I)] [.one tl20Rd] x).2 (fun v s => some (v, s)) =
    spec_l20NamesK x.1 x.2.1 (fun r => some (out_spec_l20Names r)) := by kernel_rfl
theorem sem_spec_l20Names : ∀ x y, (fun x => spec_l20Names x.1 x.2.1) x = some y → SemCall Try.prog 32 (encAr [.one (.ptr 0 0 0), .one (.dat I)] [.one tl20Rd] x).1 (encAr [.one (.ptr 0 0 0), .one (.dat I)] [.one tl20Rd] x).2 (out_spec_l20Names y).1 (out_spec_l20Names y).2 :=
  sem_of folP okP tabP (Oracle.of_ok (Oracle.cons_ok ok_spec_PutName (Oracle.cons_ok ok_spec_l20Text (Oracle.cons_ok ok_spec_l20Rd_pick (Oracle.cons_ok ok_spec_l20Rd_odd Oracle.nil_ok))))) lf_spec_l20Names fun x => (w_spec_l20Names x).trans (spec_l20Names_eq x.1 x.2.1 _)
noncomputable def c_spec_l20Names : Con := Con.shape [.one (.ptr 0 0 0), .one (.dat I)] [.one tl20Rd] (fun x => spec_l20Names x.1 x.2.1) out_spec_l20Names
theorem ok_spec_l20Names : ConOk Try.prog 32 c_spec_l20Names := Con.shape_ok sem_spec_l20Names

/-! 11 -/
def C_spec_DrawNamesValid : Cfg := { T := tab, hint := fun _ => { mu := [4], keepR := [0, 2], res := [2] }, mode := modeOf [(32, .sub)] }
noncomputable def O_spec_DrawNamesValid : Oracle := Oracle.of [(32, c_spec_l20Names), (33, c_spec_l20Open)]
noncomputable def L_spec_DrawNamesValid : Loops := Loops.of []
theorem lf_spec_DrawNamesValid : LoopsFn Try.prog C_spec_DrawNamesValid O_spec_DrawNamesValid 11 L_spec_DrawNamesValid := LoopsFn.nil' (by kernel_rfl)
def out_spec_DrawNamesValid (r : (List DName)) : AV × Store := out1 (.one (.all 0)) [.data tName] (r, ())
theorem w_spec_DrawNamesValid (x : FAr [.one (.dat (.sl (.int .u8)))] []) : evBodyK Try.prog C_spec_DrawNamesValid O_spec_DrawNamesValid L_spec_DrawNamesValid 11 (encAr [.one (.dat (.sl (.int .u8)))] [] x).1 (encAr [.one (.dat (.sl (.int .u8)))] [] x).2 (fun v s => some (v, s)) =
    spec_DrawNamesValidK x.1 (fun r => some (out_spec_DrawNamesValid r)) := by kernel_rfl
theorem sem_spec_DrawNamesValid : ∀ x y, (fun x => spec_DrawNamesValid x.1) x = some y → SemCall Try.prog 11 (encAr [.one (.dat (.sl (.int .u8)))] [] x).1 (encAr [.one (.dat (.sl (.int .u8)))] [] x).2 (out_spec_DrawNamesValid y).1 (out_spec_DrawNamesValid y).2 :=
  sem_of folP okP tabP (Oracle.of_ok (Oracle.cons_ok ok_spec_l20Names (Oracle.cons_ok ok_spec_l20Open Oracle.nil_ok))) lf_spec_DrawNamesValid fun x => (w_spec_DrawNamesValid x).trans (spec_DrawNamesValid_eq x.1 _)
noncomputable def c_spec_DrawNamesValid : Con := Con.shape [.one (.dat (.sl (.int .u8)))] [] (fun x => spec_DrawNamesValid x.1) out_spec_DrawNamesValid
theorem ok_spec_DrawNamesValid : ConOk Try.prog 11 c_spec_DrawNamesValid := Con.shape_ok sem_spec_DrawNamesValid

/-! 50 -/
def C_impl_in : Cfg := { T := tab, hint := fun _ => { keepR := [0, 1, 2, 6], res := [6] }, mode := fun _ => .borrow }
noncomputable def O_impl_in : Oracle := Oracle.of []
noncomputable def L_impl_in : Loops := Loops.of []
theorem lf_impl_in : LoopsFn Try.prog C_impl_in O_impl_in 50 L_impl_in := LoopsFn.nil' (by kernel_rfl)
def out_impl_in (r : Bool) : AV × Store := out1 (.one (.dat .bool)) [] (r, ())
theorem w_impl_in (x : FAr [.one (.dat I), .one (.dat I), .one (.dat I)] []) : evBodyK Try.prog C_impl_in O_impl_in L_impl_in 50 (encAr [.one (.dat I), .one (.dat I), .one (.dat I)] [] x).1 (encAr [.one (.dat I), .one (.dat I), .one (.dat I)] [] x).2 (fun v s => some (v, s)) =
    impl_inK x.1 x.2.1 x.2.2.1 (fun r => some (out_impl_in r)) := by kernel_rfl
theorem sem_impl_in : ∀ x y, (fun x => impl_in x.1 x.2.1 x.2.2.1) x = some y → SemCall Try.prog 50 (encAr [.one (.dat I), .one (.dat I), .one (.dat I)] [] x).1 (encAr [.one (.dat I), .one (.dat I), .one (.dat I)] [] x).2 (out_impl_in y).1 (out_impl_in y).2 :=
  sem_of folP okP tabP (Oracle.of_ok Oracle.nil_ok) lf_impl_in fun x => (w_impl_in x).trans (impl_in_eq x.1 x.2.1 x.2.2.1 _)
noncomputable def c_impl_in : Con := Con.shape [.one (.dat I), .one (.dat I), .one (.dat I)] [] (fun x => impl_in x.1 x.2.1 x.2.2.1) out_impl_in
theorem ok_impl_in : ConOk Try.prog 50 c_impl_in := Con.shape_ok sem_impl_in

/-! 51 -/
def C_impl_isThread : Cfg := { T := tab, hint := fun _ => { keepR := [0, 2], res := [2] }, mode := fun _ => .borrow }
noncomputable def O_impl_isThread : Oracle := Oracle.of [(50, c_impl_in)]
noncomputable def L_impl_isThread : Loops := Loops.of []
theorem lf_impl_isThread : LoopsFn Try.prog C_impl_isThread O_impl_isThread 51 L_impl_isThread := LoopsFn.nil' (by kernel_rfl)
def out_impl_isThread (r : Bool) : AV × Store := out1 (.one (.dat .bool)) [] (r, ())
theorem w_impl_isThread (x : FAr [.one (.dat I)] []) : evBodyK Try.prog C_impl_isThread O_impl_isThread L_impl_isThread 51 (encAr [.one (.dat I)] [] x).1 (encAr [.one (.dat I)] [] x).2 (fun v s => some (v, s)) =
    impl_isThreadK x.1 (fun r => some (out_impl_isThread r)) := by kernel_rfl
theorem sem_impl_isThread : ∀ x y, (fun x => impl_isThread x.1) x = some y → SemCall Try.prog 51 (encAr [.one (.dat I)] [] x).1 (encAr [.one (.dat I)] [] x).2 (out_impl_isThread y).1 (out_impl_isThread y).2 :=
  sem_of folP okP tabP (Oracle.of_ok (Oracle.cons_ok ok_impl_in Oracle.nil_ok)) lf_impl_isThread fun x => (w_impl_isThread x).trans (impl_isThread_eq x.1 _)
noncomputable def c_impl_isThread : Con := Con.shape [.one (.dat I)] [] (fun x => impl_isThread x.1) out_impl_isThread
theorem ok_impl_isThread : ConOk Try.prog 51 c_impl_isThread := Con.shape_ok sem_impl_isThread

/-! 34 -/
def C_impl_Name_may : Cfg := { T := tab, hint := fun _ => { keepR := [1, 2, 3, 6, 7, 8, 21], res := [2], keepL := [(0, [1, 6, 7])], keepX := [(0, [1]), (1, [1, 6, 7])] }, mode := fun _ => .borrow }
noncomputable def O_impl_Name_may : Oracle := Oracle.of [(50, c_impl_in), (51, c_impl_isThread)]
def sh_impl_Name_may_l0 : List (Nat × S2) := [(1, .one (.cdat tName 0)), (6, .one (.dat I)), (7, .one (.dat I))]
def bs_impl_Name_may_l0 : List SB := []
noncomputable def lc_impl_Name_may_l0 : LCon := LCon.shape sh_impl_Name_may_l0 bs_impl_Name_may_l0 impl_Name_may_l0 (fun a => (.exit 0, encSt [(1, .one (.cdat tName 0))] [] a)) (fun b => encSt [(2, .one (.dat .bool))] [] b)
noncomputable def L_impl_Name_may : Loops := Loops.of [(0, lc_impl_Name_may_l0)]
theorem r_impl_Name_may_l0 (x : FSt sh_impl_Name_may_l0 bs_impl_Name_may_l0) : roundK C_impl_Name_may.T (C_impl_Name_may.hint 34) C_impl_Name_may.mode O_impl_Name_may L_impl_Name_may 0 (lp Try.prog 34 0) (encSt sh_impl_Name_may_l0 bs_impl_Name_may_l0 x) (fun e s => some (e, s)) =
    impl_Name_may_l0K x.1 x.2.1 x.2.2.1 (fun y => some (Ex.normal, encSt sh_impl_Name_may_l0 bs_impl_Name_may_l0 y)) (fun a => some (Ex.exit 0, encSt [(1, .one (.cdat tName 0))] [] a)) (fun b => some (Ex.ret, encSt [(2, .one (.dat .bool))] [] b)) := by kernel_rfl
theorem lo_impl_Name_may_l0 : LConOk C_impl_Name_may.T (C_impl_Name_may.hint 34) C_impl_Name_may.mode O_impl_Name_may L_impl_Name_may 0 (lp Try.prog 34 0) lc_impl_Name_may_l0 :=
  LCon.shape_ok (fun a => by simp) fun x => (r_impl_Name_may_l0 x).trans (impl_Name_may_l0_eq x.1 x.2.1 x.2.2.1 _ _ _)
theorem lf_impl_Name_may : LoopsFn Try.prog C_impl_Name_may O_impl_Name_may 34 L_impl_Name_may := LoopsFn.all (by kernel_rfl) (by decide) ⟨lo_impl_Name_may_l0, trivial⟩
def out_impl_Name_may (r : Bool) : AV × Store := out1 (.one (.dat .bool)) [] (r, ())
theorem w_impl_Name_may (x : FAr [.one (.dat tName)] []) : evBodyK Try.prog C_impl_Name_may O_impl_Name_may L_impl_Name_may 34 (encAr [.one (.dat tName)] [] x).1 (encAr [.one (.dat tName)] [] x).2 (fun v s => some (v, s)) =
    impl_Name_mayK x.1 (fun r => some (out_impl_Name_may r)) := by kernel_rfl
theorem sem_impl_Name_may : ∀ x y, (fun x => impl_Name_may x.1) x = some y → SemCall Try.prog 34 (encAr [.one (.dat tName)] [] x).1 (encAr [.one (.dat tName)] [] x).2 (out_impl_Name_may y).1 (out_impl_Name_may y).2 :=
  sem_of folP okP tabP (Oracle.of_ok (Oracle.cons_ok ok_impl_in (Oracle.cons_ok ok_impl_isThread Oracle.nil_ok))) lf_impl_Name_may fun x => (w_impl_Name_may x).trans (impl_Name_may_eq x.1 _)
noncomputable def c_impl_Name_may : Con := Con.shape [.one (.dat tName)] [] (fun x => impl_Name_may x.1) out_impl_Name_may
theorem ok_impl_Name_may : ConOk Try.prog 34 c_impl_Name_may := Con.shape_ok sem_impl_Name_may

/-! 12 -/
def C_impl_NamesValid : Cfg := { T := tab, hint := fun _ => { mu := [4], keepR := [0, 2, 3, 4, 5, 6, 7, 8, 29], res := [2], order := [(4, [(0, .forced), (1, .forced), (2, .forced), (3, .forced), (4, .forced), (5, .forced), (6, .forced), (7, .read), (8, .read), (9, .read), (10, .forced), (11, .forced), (12, .forced), (13, .forced), (14, .forced), (15, .forced), (16, .forced), (17, .forced)])], keepL := [(0, [0, 5, 6, 7])], keepX := [(0, [0]), (1, [0, 5, 6, 7])] }, mode := fun _ => .borrow }
noncomputable def O_impl_NamesValid : Oracle := Oracle.of [(34, c_impl_Name_may)]
def sh_impl_NamesValid_l0 : List (Nat × S2) := [(0, .one (.dat (.sl tName))), (5, .one (.dat (.sl tName))), (6, .one (.dat I)), (7, .one (.dat I))]
def bs_impl_NamesValid_l0 : List SB := []
noncomputable def lc_impl_NamesValid_l0 : LCon := LCon.shape sh_impl_NamesValid_l0 bs_impl_NamesValid_l0 impl_NamesValid_l0 (fun a => (.exit 0, encSt [(0, .one (.dat (.sl tName)))] [] a)) (fun b => encSt [(2, .one (.dat .bool))] [] b)
noncomputable def L_impl_NamesValid : Loops := Loops.of [(0, lc_impl_NamesValid_l0)]
theorem r_impl_NamesValid_l0 (x : FSt sh_impl_NamesValid_l0 bs_impl_NamesValid_l0) : roundK C_impl_NamesValid.T (C_impl_NamesValid.hint 12) C_impl_NamesValid.mode O_impl_NamesValid L_impl_NamesValid 0 (lp Try.prog 12 0) (encSt sh_impl_NamesValid_l0 bs_impl_NamesValid_l0 x) (fun e s => some (e, s)) =
    impl_NamesValid_l0K x.1 x.2.1 x.2.2.1 x.2.2.2.1 (fun y => some (Ex.normal, encSt sh_impl_NamesValid_l0 bs_impl_NamesValid_l0 y)) (fun a => some (Ex.exit 0, encSt [(0, .one (.dat (.sl tName)))] [] a)) (fun b => some (Ex.ret, encSt [(2, .one (.dat .bool))] [] b)) := by kernel_rfl
theorem lo_impl_NamesValid_l0 : LConOk C_impl_NamesValid.T (C_impl_NamesValid.hint 12) C_impl_NamesValid.mode O_impl_NamesValid L_impl_NamesValid 0 (lp Try.prog 12 0) lc_impl_NamesValid_l0 :=
  LCon.shape_ok (fun a => by simp) fun x => (r_impl_NamesValid_l0 x).trans (impl_NamesValid_l0_eq x.1 x.2.1 x.2.2.1 x.2.2.2.1 _ _ _)
theorem lf_impl_NamesValid : LoopsFn Try.prog C_impl_NamesValid O_impl_NamesValid 12 L_impl_NamesValid := LoopsFn.all (by kernel_rfl) (by decide) ⟨lo_impl_NamesValid_l0, trivial⟩
def out_impl_NamesValid (r : Bool) : AV × Store := out1 (.one (.dat .bool)) [] (r, ())
theorem w_impl_NamesValid (x : FAr [.one (.dat (.sl tName))] []) : evBodyK Try.prog C_impl_NamesValid O_impl_NamesValid L_impl_NamesValid 12 (encAr [.one (.dat (.sl tName))] [] x).1 (encAr [.one (.dat (.sl tName))] [] x).2 (fun v s => some (v, s)) =
    impl_NamesValidK x.1 (fun r => some (out_impl_NamesValid r)) := by kernel_rfl
theorem sem_impl_NamesValid : ∀ x y, (fun x => impl_NamesValid x.1) x = some y → SemCall Try.prog 12 (encAr [.one (.dat (.sl tName))] [] x).1 (encAr [.one (.dat (.sl tName))] [] x).2 (out_impl_NamesValid y).1 (out_impl_NamesValid y).2 :=
  sem_of folP okP tabP (Oracle.of_ok (Oracle.cons_ok ok_impl_Name_may Oracle.nil_ok)) lf_impl_NamesValid fun x => (w_impl_NamesValid x).trans (impl_NamesValid_eq x.1 _)
noncomputable def c_impl_NamesValid : Con := Con.shape [.one (.dat (.sl tName))] [] (fun x => impl_NamesValid x.1) out_impl_NamesValid
theorem ok_impl_NamesValid : ConOk Try.prog 12 c_impl_NamesValid := Con.shape_ok sem_impl_NamesValid

/-! 14 -/
def out_laws_alive (r : Bool) : AV × Store := out1 (.one (.dat .bool)) [] (r, ())
theorem sem_laws_alive : ∀ x y, (fun x => laws_alive) x = some y → SemCall Try.prog 14 (encAr [] [] x).1 (encAr [] [] x).2 (out_laws_alive y).1 (out_laws_alive y).2 := fun x y h => by
  have e : y = true := (Option.some.inj h).symm
  subst e
  exact sem_of_below ⟨_, _, Try.func14, rfl, by kernel_rfl⟩ Try.aliveCalls
noncomputable def c_laws_alive : Con := Con.shape [] [] (fun x => laws_alive) out_laws_alive
theorem ok_laws_alive : ConOk Try.prog 14 c_laws_alive := Con.shape_ok sem_laws_alive

/-! 3 -/
def C_laws_FnNamesValid : Cfg := { T := tab, hint := fun _ => { mu := [5, 31], keepR := [0, 2, 3, 4, 5, 8, 16], res := [2], order := [(8, [(0, .forced), (1, .forced), (2, .forced), (3, .read), (4, .forced), (5, .forced), (6, .forced), (7, .forced), (8, .forced), (9, .forced), (10, .forced), (11, .read), (12, .read), (14, .aside []), (15, .aside []), (16, .pure), (13, .forced), (17, .forced), (18, .forced), (19, .forced), (20, .forced), (21, .forced), (22, .forced), (23, .forced), (24, .forced)])] }, mode := fun _ => .borrow }
noncomputable def O_laws_FnNamesValid : Oracle := Oracle.of [(11, c_spec_DrawNamesValid), (12, c_impl_NamesValid), (13, c_spec_NamesValid), (14, c_laws_alive)]
noncomputable def L_laws_FnNamesValid : Loops := Loops.of []
theorem lf_laws_FnNamesValid : LoopsFn Try.prog C_laws_FnNamesValid O_laws_FnNamesValid 3 L_laws_FnNamesValid := LoopsFn.nil' (by kernel_rfl)
def out_laws_FnNamesValid (r : Bool) : AV × Store := out1 (.one (.dat .bool)) [] (r, ())
theorem w_laws_FnNamesValid (x : FAr [.one (.dat (.sl (.int .u8)))] []) : evBodyK Try.prog C_laws_FnNamesValid O_laws_FnNamesValid L_laws_FnNamesValid 3 (encAr [.one (.dat (.sl (.int .u8)))] [] x).1 (encAr [.one (.dat (.sl (.int .u8)))] [] x).2 (fun v s => some (v, s)) =
    laws_FnNamesValidK x.1 (fun r => some (out_laws_FnNamesValid r)) := by kernel_rfl
theorem sem_laws_FnNamesValid : ∀ x y, (fun x => laws_FnNamesValid x.1) x = some y → SemCall Try.prog 3 (encAr [.one (.dat (.sl (.int .u8)))] [] x).1 (encAr [.one (.dat (.sl (.int .u8)))] [] x).2 (out_laws_FnNamesValid y).1 (out_laws_FnNamesValid y).2 :=
  sem_of folP okP tabP (Oracle.of_ok (Oracle.cons_ok ok_spec_DrawNamesValid (Oracle.cons_ok ok_impl_NamesValid (Oracle.cons_ok ok_spec_NamesValid (Oracle.cons_ok ok_laws_alive Oracle.nil_ok))))) lf_laws_FnNamesValid fun x => (w_laws_FnNamesValid x).trans (laws_FnNamesValid_eq x.1 _)
noncomputable def c_laws_FnNamesValid : Con := Con.shape [.one (.dat (.sl (.int .u8)))] [] (fun x => laws_FnNamesValid x.1) out_laws_FnNamesValid
theorem ok_laws_FnNamesValid : ConOk Try.prog 3 c_laws_FnNamesValid := Con.shape_ok sem_laws_FnNamesValid

/-! 27 -/
def C_laws_szName : Cfg := { T := tab, hint := fun _ => { keepR := [1, 2, 4, 11], res := [4] }, mode := fun _ => .borrow }
noncomputable def O_laws_szName : Oracle := Oracle.of []
noncomputable def L_laws_szName : Loops := Loops.of []
theorem lf_laws_szName : LoopsFn Try.prog C_laws_szName O_laws_szName 27 L_laws_szName := LoopsFn.nil' (by kernel_rfl)
def out_laws_szName (r : Int) : AV × Store := out1 (.one (.dat I)) [] (r, ())
theorem w_laws_szName (x : FAr [.one (.dat tName), .one (.dat I)] []) : evBodyK Try.prog C_laws_szName O_laws_szName L_laws_szName 27 (encAr [.one (.dat tName), .one (.dat I)] [] x).1 (encAr [.one (.dat tName), .one (.dat I)] [] x).2 (fun v s => some (v, s)) =
    laws_szNameK x.1 x.2.1 (fun r => some (out_laws_szName r)) := by kernel_rfl
theorem sem_laws_szName : ∀ x y, (fun x => laws_szName x.1 x.2.1) x = some y → SemCall Try.prog 27 (encAr [.one (.dat tName), .one (.dat I)] [] x).1 (encAr [.one (.dat tName), .one (.dat I)] [] x).2 (out_laws_szName y).1 (out_laws_szName y).2 :=
  sem_of folP okP tabP (Oracle.of_ok Oracle.nil_ok) lf_laws_szName fun x => (w_laws_szName x).trans (laws_szName_eq x.1 x.2.1 _)
noncomputable def c_laws_szName : Con := Con.shape [.one (.dat tName), .one (.dat I)] [] (fun x => laws_szName x.1 x.2.1) out_laws_szName
theorem ok_laws_szName : ConOk Try.prog 27 c_laws_szName := Con.shape_ok sem_laws_szName

/-! 15 -/
def C_laws_szNameS : Cfg := { T := tab, hint := fun _ => { keepR := [0, 1, 4, 5, 11, 15, 25], res := [4], keepL := [(0, [0, 1, 5])], keepX := [(0, [1]), (1, [0, 1, 5])] }, mode := fun _ => .borrow }
noncomputable def O_laws_szNameS : Oracle := Oracle.of [(27, c_laws_szName)]
def sh_laws_szNameS_l0 : List (Nat × S2) := [(0, .one (.dat (.sl tName))), (1, .one (.dat I)), (5, .one (.dat I))]
def bs_laws_szNameS_l0 : List SB := []
noncomputable def lc_laws_szNameS_l0 : LCon := LCon.shape sh_laws_szNameS_l0 bs_laws_szNameS_l0 laws_szNameS_l0 (fun a => (.exit 0, encSt [(1, .one (.dat I))] [] a)) (fun b => encSt [(4, .one (.dat I))] [] b)
noncomputable def L_laws_szNameS : Loops := Loops.of [(0, lc_laws_szNameS_l0)]
theorem r_laws_szNameS_l0 (x : FSt sh_laws_szNameS_l0 bs_laws_szNameS_l0) : roundK C_laws_szNameS.T (C_laws_szNameS.hint 15) C_laws_szNameS.mode O_laws_szNameS L_laws_szNameS 0 (lp Try.prog 15 0) (encSt sh_laws_szNameS_l0 bs_laws_szNameS_l0 x) (fun e s => some (e, s)) =
    laws_szNameS_l0K x.1 x.2.1 x.2.2.1 (fun y => some (Ex.normal, encSt sh_laws_szNameS_l0 bs_laws_szNameS_l0 y)) (fun a => some (Ex.exit 0, encSt [(1, .one (.dat I))] [] a)) (fun b => some (Ex.ret, encSt [(4, .one (.dat I))] [] b)) := by kernel_rfl
theorem lo_laws_szNameS_l0 : LConOk C_laws_szNameS.T (C_laws_szNameS.hint 15) C_laws_szNameS.mode O_laws_szNameS L_laws_szNameS 0 (lp Try.prog 15 0) lc_laws_szNameS_l0 :=
  LCon.shape_ok (fun a => by simp) fun x => (r_laws_szNameS_l0 x).trans (laws_szNameS_l0_eq x.1 x.2.1 x.2.2.1 _ _ _)
theorem lf_laws_szNameS : LoopsFn Try.prog C_laws_szNameS O_laws_szNameS 15 L_laws_szNameS := LoopsFn.all (by kernel_rfl) (by decide) ⟨lo_laws_szNameS_l0, trivial⟩
def out_laws_szNameS (r : Int) : AV × Store := out1 (.one (.dat I)) [] (r, ())
theorem w_laws_szNameS (x : FAr [.one (.dat (.sl tName)), .one (.dat I)] []) : evBodyK Try.prog C_laws_szNameS O_laws_szNameS L_laws_szNameS 15 (encAr [.one (.dat (.sl tName)), .one (.dat I)] [] x).1 (encAr [.one (.dat (.sl tName)), .one (.dat I)] [] x).2 (fun v s => some (v, s)) =
    laws_szNameSK x.1 x.2.1 (fun r => some (out_laws_szNameS r)) := by kernel_rfl
theorem sem_laws_szNameS : ∀ x y, (fun x => laws_szNameS x.1 x.2.1) x = some y → SemCall Try.prog 15 (encAr [.one (.dat (.sl tName)), .one (.dat I)] [] x).1 (encAr [.one (.dat (.sl tName)), .one (.dat I)] [] x).2 (out_laws_szNameS y).1 (out_laws_szNameS y).2 :=
  sem_of folP okP tabP (Oracle.of_ok (Oracle.cons_ok ok_laws_szName Oracle.nil_ok)) lf_laws_szNameS fun x => (w_laws_szNameS x).trans (laws_szNameS_eq x.1 x.2.1 _)
noncomputable def c_laws_szNameS : Con := Con.shape [.one (.dat (.sl tName)), .one (.dat I)] [] (fun x => laws_szNameS x.1 x.2.1) out_laws_szNameS
theorem ok_laws_szNameS : ConOk Try.prog 15 c_laws_szNameS := Con.shape_ok sem_laws_szNameS

/-! 29 -/
def C_laws_toName : Cfg := { T := tab, hint := fun _ => { mu := [2, 3], keepR := [1, 2, 3], res := [2] }, mode := fun _ => .borrow }
noncomputable def O_laws_toName : Oracle := Oracle.of []
noncomputable def L_laws_toName : Loops := Loops.of []
theorem lf_laws_toName : LoopsFn Try.prog C_laws_toName O_laws_toName 29 L_laws_toName := LoopsFn.nil' (by kernel_rfl)
def out_laws_toName (r : DName) : AV × Store := out1 (.one (.dat tName)) [] (r, ())
theorem w_laws_toName (x : FAr [.one (.dat tName)] []) : evBodyK Try.prog C_laws_toName O_laws_toName L_laws_toName 29 (encAr [.one (.dat tName)] [] x).1 (encAr [.one (.dat tName)] [] x).2 (fun v s => some (v, s)) =
    laws_toNameK x.1 (fun r => some (out_laws_toName r)) := by kernel_rfl
theorem sem_laws_toName : ∀ x y, (fun x => laws_toName x.1) x = some y → SemCall Try.prog 29 (encAr [.one (.dat tName)] [] x).1 (encAr [.one (.dat tName)] [] x).2 (out_laws_toName y).1 (out_laws_toName y).2 :=
  sem_of folP okP tabP (Oracle.of_ok Oracle.nil_ok) lf_laws_toName fun x => (w_laws_toName x).trans (laws_toName_eq x.1 _)
noncomputable def c_laws_toName : Con := Con.shape [.one (.dat tName)] [] (fun x => laws_toName x.1) out_laws_toName
theorem ok_laws_toName : ConOk Try.prog 29 c_laws_toName := Con.shape_ok sem_laws_toName

/-! 17 -/
def C_laws_toNameS : Cfg := { T := tab, hint := fun _ => { mu := [7], keepR := [0, 2, 3, 4, 11], res := [2], keepL := [(0, [0, 3, 4])], keepX := [(0, [3]), (1, [0, 3, 4])] }, mode := fun _ => .borrow }
noncomputable def O_laws_toNameS : Oracle := Oracle.of [(29, c_laws_toName)]
def sh_laws_toNameS_l0 : List (Nat × S2) := [(0, .one (.dat (.sl tName))), (3, .one (.all 0)), (4, .one (.dat I))]
def bs_laws_toNameS_l0 : List SB := [.data tName]
noncomputable def lc_laws_toNameS_l0 : LCon := LCon.shape1 sh_laws_toNameS_l0 bs_laws_toNameS_l0 laws_toNameS_l0 (fun a => (.exit 0, encSt [(3, .one (.all 0))] [.data tName] a))
noncomputable def L_laws_toNameS : Loops := Loops.of [(0, lc_laws_toNameS_l0)]
theorem r_laws_toNameS_l0 (x : FSt sh_laws_toNameS_l0 bs_laws_toNameS_l0) : roundK C_laws_toNameS.T (C_laws_toNameS.hint 17) C_laws_toNameS.mode O_laws_toNameS L_laws_toNameS 0 (lp Try.prog 17 0) (encSt sh_laws_toNameS_l0 bs_laws_toNameS_l0 x) (fun e s => some (e, s)) =
    laws_toNameS_l0K x.1 x.2.1 x.2.2.1 (fun y => some (Ex.normal, encSt sh_laws_toNameS_l0 bs_laws_toNameS_l0 y)) (fun a => some (Ex.exit 0, encSt [(3, .one (.all 0))] [.data tName] a)) := by kernel_rfl
theorem lo_laws_toNameS_l0 : LConOk C_laws_toNameS.T (C_laws_toNameS.hint 17) C_laws_toNameS.mode O_laws_toNameS L_laws_toNameS 0 (lp Try.prog 17 0) lc_laws_toNameS_l0 :=
  LCon.shape1_ok (fun a => by simp) fun x => (r_laws_toNameS_l0 x).trans (laws_toNameS_l0_eq x.1 x.2.1 x.2.2.1 _ _)
theorem lf_laws_toNameS : LoopsFn Try.prog C_laws_toNameS O_laws_toNameS 17 L_laws_toNameS := LoopsFn.all (by kernel_rfl) (by decide) ⟨lo_laws_toNameS_l0, trivial⟩
def out_laws_toNameS (r : (List DName)) : AV × Store := out1 (.one (.all 0)) [.data tName] (r, ())
theorem w_laws_toNameS (x : FAr [.one (.dat (.sl tName))] []) : evBodyK Try.prog C_laws_toNameS O_laws_toNameS L_laws_toNameS 17 (encAr [.one (.dat (.sl tName))] [] x).1 (encAr [.one (.dat (.sl tName))] [] x).2 (fun v s => some (v, s)) =
    laws_toNameSK x.1 (fun r => some (out_laws_toNameS r)) := by kernel_rfl
theorem sem_laws_toNameS : ∀ x y, (fun x => laws_toNameS x.1) x = some y → SemCall Try.prog 17 (encAr [.one (.dat (.sl tName))] [] x).1 (encAr [.one (.dat (.sl tName))] [] x).2 (out_laws_toNameS y).1 (out_laws_toNameS y).2 :=
  sem_of folP okP tabP (Oracle.of_ok (Oracle.cons_ok ok_laws_toName Oracle.nil_ok)) lf_laws_toNameS fun x => (w_laws_toNameS x).trans (laws_toNameS_eq x.1 _)
noncomputable def c_laws_toNameS : Con := Con.shape [.one (.dat (.sl tName))] [] (fun x => laws_toNameS x.1) out_laws_toNameS
theorem ok_laws_toNameS : ConOk Try.prog 17 c_laws_toNameS := Con.shape_ok sem_laws_toNameS

/-! 16 -/
def C_spec_FindName : Cfg := { T := tab, hint := fun _ => { keepR := [0, 1, 4, 5, 6, 14, 23], res := [4, 5], keepL := [(0, [0, 1, 6])], keepX := [(0, []), (1, [0, 1, 6])] }, mode := fun _ => .borrow }
noncomputable def O_spec_FindName : Oracle := Oracle.of [(13, c_spec_NamesValid)]
def sh_spec_FindName_l0 : List (Nat × S2) := [(0, .one (.dat (.sl tName))), (1, .one (.dat .str)), (6, .one (.dat I))]
def bs_spec_FindName_l0 : List SB := []
noncomputable def lc_spec_FindName_l0 : LCon := LCon.shape sh_spec_FindName_l0 bs_spec_FindName_l0 spec_FindName_l0 (fun a => (.exit 0, encSt [] [] a)) (fun b => encSt [(4, .one (.dat I)), (5, .one (.dat .bool))] [] b)
noncomputable def L_spec_FindName : Loops := Loops.of [(0, lc_spec_FindName_l0)]
theorem r_spec_FindName_l0 (x : FSt sh_spec_FindName_l0 bs_spec_FindName_l0) : roundK C_spec_FindName.T (C_spec_FindName.hint 16) C_spec_FindName.mode O_spec_FindName L_spec_FindName 0 (lp Try.prog 16 0) (encSt sh_spec_FindName_l0 bs_spec_FindName_l0 x) (fun e s => some (e, s)) =
    spec_FindName_l0K x.1 x.2.1 x.2.2.1 (fun y => some (Ex.normal, encSt sh_spec_FindName_l0 bs_spec_FindName_l0 y)) (fun a => some (Ex.exit 0, encSt [] [] a)) (fun b => some (Ex.ret, encSt [(4, .one (.dat I)), (5, .one (.dat .bool))] [] b)) := by kernel_rfl
theorem lo_spec_FindName_l0 : LConOk C_spec_FindName.T (C_spec_FindName.hint 16) C_spec_FindName.mode O_spec_FindName L_spec_FindName 0 (lp Try.prog 16 0) lc_spec_FindName_l0 :=
  LCon.shape_ok (fun a => by simp) fun x => (r_spec_FindName_l0 x).trans (spec_FindName_l0_eq x.1 x.2.1 x.2.2.1 _ _ _)
theorem lf_spec_FindName : LoopsFn Try.prog C_spec_FindName O_spec_FindName 16 L_spec_FindName := LoopsFn.all (by kernel_rfl) (by decide) ⟨lo_spec_FindName_l0, trivial⟩
def out_spec_FindName (r : Int × Bool) : AV × Store := outT [.one (.dat I), .one (.dat .bool)] [] (r.1, r.2, ())
theorem w_spec_FindName (x : FAr [.one (.dat (.sl tName)), .one (.dat .str)] []) : evBodyK Try.prog C_spec_FindName O_spec_FindName L_spec_FindName 16 (encAr [.one (.dat (.sl tName)), .one (.dat .str)] [] x).1 (encAr [.one (.dat (.sl tName)), .one (.dat .str)] [] x).2 (fun v s => some (v, s)) =
    spec_FindNameK x.1 x.2.1 (fun r => some (out_spec_FindName r)) := by kernel_rfl
theorem sem_spec_FindName : ∀ x y, (fun x => spec_FindName x.1 x.2.1) x = some y → SemCall Try.prog 16 (encAr [.one (.dat (.sl tName)), .one (.dat .str)] [] x).1 (encAr [.one (.dat (.sl tName)), .one (.dat .str)] [] x).2 (out_spec_FindName y).1 (out_spec_FindName y).2 :=
  sem_of folP okP tabP (Oracle.of_ok (Oracle.cons_ok ok_spec_NamesValid Oracle.nil_ok)) lf_spec_FindName fun x => (w_spec_FindName x).trans (spec_FindName_eq x.1 x.2.1 _)
noncomputable def c_spec_FindName : Con := Con.shape [.one (.dat (.sl tName)), .one (.dat .str)] [] (fun x => spec_FindName x.1 x.2.1) out_spec_FindName
theorem ok_spec_FindName : ConOk Try.prog 16 c_spec_FindName := Con.shape_ok sem_spec_FindName

/-! 62 -/
def C_cmp_isNaN_string : Cfg := { T := tab, hint := fun _ => { keepR := [0, 2], res := [2] }, mode := fun _ => .borrow }
noncomputable def O_cmp_isNaN_string : Oracle := Oracle.of []
noncomputable def L_cmp_isNaN_string : Loops := Loops.of []
theorem lf_cmp_isNaN_string : LoopsFn Try.prog C_cmp_isNaN_string O_cmp_isNaN_string 62 L_cmp_isNaN_string := LoopsFn.nil' (by kernel_rfl)
def out_cmp_isNaN_string (r : Bool) : AV × Store := out1 (.one (.dat .bool)) [] (r, ())
theorem w_cmp_isNaN_string (x : FAr [.one (.dat .str)] []) : evBodyK Try.prog C_cmp_isNaN_string O_cmp_isNaN_string L_cmp_isNaN_string 62 (encAr [.one (.dat .str)] [] x).1 (encAr [.one (.dat .str)] [] x).2 (fun v s => some (v, s)) =
    cmp_isNaN_stringK x.1 (fun r => some (out_cmp_isNaN_string r)) := by kernel_rfl
theorem sem_cmp_isNaN_string : ∀ x y, (fun x => cmp_isNaN_string x.1) x = some y → SemCall Try.prog 62 (encAr [.one (.dat .str)] [] x).1 (encAr [.one (.dat .str)] [] x).2 (out_cmp_isNaN_string y).1 (out_cmp_isNaN_string y).2 :=
  sem_of folP okP tabP (Oracle.of_ok Oracle.nil_ok) lf_cmp_isNaN_string fun x => (w_cmp_isNaN_string x).trans (cmp_isNaN_string_eq x.1 _)
noncomputable def c_cmp_isNaN_string : Con := Con.shape [.one (.dat .str)] [] (fun x => cmp_isNaN_string x.1) out_cmp_isNaN_string
theorem ok_cmp_isNaN_string : ConOk Try.prog 62 c_cmp_isNaN_string := Con.shape_ok sem_cmp_isNaN_string

/-! 57 -/
def C_cmp_Compare_string : Cfg := { T := tab, hint := fun _ => { keepR := [0, 1, 4, 5, 6, 11, 12, 13, 16, 19], res := [4] }, mode := fun _ => .borrow }
noncomputable def O_cmp_Compare_string : Oracle := Oracle.of [(62, c_cmp_isNaN_string)]
noncomputable def L_cmp_Compare_string : Loops := Loops.of []
theorem lf_cmp_Compare_string : LoopsFn Try.prog C_cmp_Compare_string O_cmp_Compare_string 57 L_cmp_Compare_string := LoopsFn.nil' (by kernel_rfl)
def out_cmp_Compare_string (r : Int) : AV × Store := out1 (.one (.dat I)) [] (r, ())
theorem w_cmp_Compare_string (x : FAr [.one (.dat .str), .one (.dat .str)] []) : evBodyK Try.prog C_cmp_Compare_string O_cmp_Compare_string L_cmp_Compare_string 57 (encAr [.one (.dat .str), .one (.dat .str)] [] x).1 (encAr [.one (.dat .str), .one (.dat .str)] [] x).2 (fun v s => some (v, s)) =
    cmp_Compare_stringK x.1 x.2.1 (fun r => some (out_cmp_Compare_string r)) := by kernel_rfl
theorem sem_cmp_Compare_string : ∀ x y, (fun x => cmp_Compare_string x.1 x.2.1) x = some y → SemCall Try.prog 57 (encAr [.one (.dat .str), .one (.dat .str)] [] x).1 (encAr [.one (.dat .str), .one (.dat .str)] [] x).2 (out_cmp_Compare_string y).1 (out_cmp_Compare_string y).2 :=
  sem_of folP okP tabP (Oracle.of_ok (Oracle.cons_ok ok_cmp_isNaN_string Oracle.nil_ok)) lf_cmp_Compare_string fun x => (w_cmp_Compare_string x).trans (cmp_Compare_string_eq x.1 x.2.1 _)
noncomputable def c_cmp_Compare_string : Con := Con.shape [.one (.dat .str), .one (.dat .str)] [] (fun x => cmp_Compare_string x.1 x.2.1) out_cmp_Compare_string
theorem ok_cmp_Compare_string : ConOk Try.prog 57 c_cmp_Compare_string := Con.shape_ok sem_cmp_Compare_string

/-! 56 -/
def C_impl_find_c1 : Cfg := { T := tab, hint := fun _ => { keepR := [1, 2, 4], res := [4] }, mode := fun _ => .borrow }
noncomputable def O_impl_find_c1 : Oracle := Oracle.of [(57, c_cmp_Compare_string)]
noncomputable def L_impl_find_c1 : Loops := Loops.of []
theorem lf_impl_find_c1 : LoopsFn Try.prog C_impl_find_c1 O_impl_find_c1 56 L_impl_find_c1 := LoopsFn.nil' (by kernel_rfl)
def out_impl_find_c1 (r : Int) : AV × Store := out1 (.one (.dat I)) [] (r, ())
theorem w_impl_find_c1 (x : FAr [.one (.dat tName), .one (.dat .str)] []) : evBodyK Try.prog C_impl_find_c1 O_impl_find_c1 L_impl_find_c1 56 (encAr [.one (.dat tName), .one (.dat .str)] [] x).1 (encAr [.one (.dat tName), .one (.dat .str)] [] x).2 (fun v s => some (v, s)) =
    impl_find_c1K x.1 x.2.1 (fun r => some (out_impl_find_c1 r)) := by kernel_rfl
theorem sem_impl_find_c1 : ∀ x y, (fun x => impl_find_c1 x.1 x.2.1) x = some y → SemCall Try.prog 56 (encAr [.one (.dat tName), .one (.dat .str)] [] x).1 (encAr [.one (.dat tName), .one (.dat .str)] [] x).2 (out_impl_find_c1 y).1 (out_impl_find_c1 y).2 :=
  sem_of folP okP tabP (Oracle.of_ok (Oracle.cons_ok ok_cmp_Compare_string Oracle.nil_ok)) lf_impl_find_c1 fun x => (w_impl_find_c1 x).trans (impl_find_c1_eq x.1 x.2.1 _)
noncomputable def c_impl_find_c1 : Con := Con.shape [.one (.dat tName), .one (.dat .str)] [] (fun x => impl_find_c1 x.1 x.2.1) out_impl_find_c1
theorem ok_impl_find_c1 : ConOk Try.prog 56 c_impl_find_c1 := Con.shape_ok sem_impl_find_c1

/-! 55 -/
def C_slices_BinarySearchFunc_string : Cfg := { T := tab, hint := fun _ => { keepR := [0, 1, 2, 6, 7, 8, 9, 10, 11, 17, 31], res := [6, 7], keepL := [(0, [0, 1, 2, 8, 9, 10])], keepX := [(0, [0, 1, 2, 8, 9]), (1, [0, 1, 2, 8, 9, 10])] }, mode := fun _ => .borrow }
noncomputable def O_slices_BinarySearchFunc_string : Oracle := Oracle.of [(56, c_impl_find_c1)]
def sh_slices_BinarySearchFunc_string_l0 : List (Nat × S2) := [(0, .one (.dat (.sl tName))), (1, .one (.dat .str)), (2, .fn 56 []), (8, .one (.dat I)), (9, .one (.dat I)), (10, .one (.dat I))]
def bs_slices_BinarySearchFunc_string_l0 : List SB := []
noncomputable def lc_slices_BinarySearchFunc_string_l0 : LCon := LCon.shape1 sh_slices_BinarySearchFunc_string_l0 bs_slices_BinarySearchFunc_string_l0 slices_BinarySearchFunc_string_l0 (fun a => (.exit 0, encSt [(0, .one (.dat (.sl tName))), (1, .one (.dat .str)), (2, .fn 56 []), (8, .one (.dat I)), (9, .one (.dat I))] [] a))
noncomputable def L_slices_BinarySearchFunc_string : Loops := Loops.of [(0, lc_slices_BinarySearchFunc_string_l0)]
theorem r_slices_BinarySearchFunc_string_l0 (x : FSt sh_slices_BinarySearchFunc_string_l0 bs_slices_BinarySearchFunc_string_l0) : roundK C_slices_BinarySearchFunc_string.T (C_slices_BinarySearchFunc_string.hint 55) C_slices_BinarySearchFunc_string.mode O_slices_BinarySearchFunc_string L_slices_BinarySearchFunc_string 0 (lp Try.prog 55 0) (encSt sh_slices_BinarySearchFunc_string_l0 bs_slices_BinarySearchFunc_string_l0 x) (fun e s => some (e, s)) =
    slices_BinarySearchFunc_string_l0K x.1 x.2.1 x.2.2.1 x.2.2.2.1 x.2.2.2.2.1 (fun y => some (Ex.normal, encSt sh_slices_BinarySearchFunc_string_l0 bs_slices_BinarySearchFunc_string_l0 y)) (fun a => some (Ex.exit 0, encSt [(0, .one (.dat (.sl tName))), (1, .one (.dat .str)), (2, .fn 56 []), (8, .one (.dat I)), (9, .one (.dat I))] [] a)) := by kernel_rfl
theorem lo_slices_BinarySearchFunc_string_l0 : LConOk C_slices_BinarySearchFunc_string.T (C_slices_BinarySearchFunc_string.hint 55) C_slices_BinarySearchFunc_string.mode O_slices_BinarySearchFunc_string L_slices_BinarySearchFunc_string 0 (lp Try.prog 55 0) lc_slices_BinarySearchFunc_string_l0 :=
  LCon.shape1_ok (fun a => by simp) fun x => (r_slices_BinarySearchFunc_string_l0 x).trans (slices_BinarySearchFunc_string_l0_eq x.1 x.2.1 x.2.2.1 x.2.2.2.1 x.2.2.2.2.1 _ _)
theorem lf_slices_BinarySearchFunc_string : LoopsFn Try.prog C_slices_BinarySearchFunc_string O_slices_BinarySearchFunc_string 55 L_slices_BinarySearchFunc_string := LoopsFn.all (by kernel_rfl) (by decide) ⟨lo_slices_BinarySearchFunc_string_l0, trivial⟩
def out_slices_BinarySearchFunc_string (r : Int × Bool) : AV × Store := outT [.one (.dat I), .one (.dat .bool)] [] (r.1, r.2, ())
theorem w_slices_BinarySearchFunc_string (x : FAr [.one (.dat (.sl tName)), .one (.dat .str), .fn 56 []] []) : evBodyK Try.prog C_slices_BinarySearchFunc_string O_slices_BinarySearchFunc_string L_slices_BinarySearchFunc_string 55 (encAr [.one (.dat (.sl tName)), .one (.dat .str), .fn 56 []] [] x).1 (encAr [.one (.dat (.sl tName)), .one (.dat .str), .fn 56 []] [] x).2 (fun v s => some (v, s)) =
    slices_BinarySearchFunc_stringK x.1 x.2.1 (fun r => some (out_slices_BinarySearchFunc_string r)) := by kernel_rfl
theorem sem_slices_BinarySearchFunc_string : ∀ x y, (fun x => slices_BinarySearchFunc_string x.1 x.2.1) x = some y → SemCall Try.prog 55 (encAr [.one (.dat (.sl tName)), .one (.dat .str), .fn 56 []] [] x).1 (encAr [.one (.dat (.sl tName)), .one (.dat .str), .fn 56 []] [] x).2 (out_slices_BinarySearchFunc_string y).1 (out_slices_BinarySearchFunc_string y).2 :=
  sem_of folP okP tabP (Oracle.of_ok (Oracle.cons_ok ok_impl_find_c1 Oracle.nil_ok)) lf_slices_BinarySearchFunc_string fun x => (w_slices_BinarySearchFunc_string x).trans (slices_BinarySearchFunc_string_eq x.1 x.2.1 _)
noncomputable def c_slices_BinarySearchFunc_string : Con := Con.shape [.one (.dat (.sl tName)), .one (.dat .str), .fn 56 []] [] (fun x => slices_BinarySearchFunc_string x.1 x.2.1) out_slices_BinarySearchFunc_string
theorem ok_slices_BinarySearchFunc_string : ConOk Try.prog 55 c_slices_BinarySearchFunc_string := Con.shape_ok sem_slices_BinarySearchFunc_string

/-! 38 -/
def C_impl_find : Cfg := { T := tab, hint := fun _ => { keepR := [0, 1, 4, 5], res := [4, 5] }, mode := fun _ => .borrow }
noncomputable def O_impl_find : Oracle := Oracle.of [(55, c_slices_BinarySearchFunc_string)]
noncomputable def L_impl_find : Loops := Loops.of []
theorem lf_impl_find : LoopsFn Try.prog C_impl_find O_impl_find 38 L_impl_find := LoopsFn.nil' (by kernel_rfl)
def out_impl_find (r : Int × Bool) : AV × Store := outT [.one (.dat I), .one (.dat .bool)] [] (r.1, r.2, ())
theorem w_impl_find (x : FAr [.one (.dat (.sl tName)), .one (.dat .str)] []) : evBodyK Try.prog C_impl_find O_impl_find L_impl_find 38 (encAr [.one (.dat (.sl tName)), .one (.dat .str)] [] x).1 (encAr [.one (.dat (.sl tName)), .one (.dat .str)] [] x).2 (fun v s => some (v, s)) =
    impl_findK x.1 x.2.1 (fun r => some (out_impl_find r)) := by kernel_rfl
theorem sem_impl_find : ∀ x y, (fun x => impl_find x.1 x.2.1) x = some y → SemCall Try.prog 38 (encAr [.one (.dat (.sl tName)), .one (.dat .str)] [] x).1 (encAr [.one (.dat (.sl tName)), .one (.dat .str)] [] x).2 (out_impl_find y).1 (out_impl_find y).2 :=
  sem_of folP okP tabP (Oracle.of_ok (Oracle.cons_ok ok_slices_BinarySearchFunc_string Oracle.nil_ok)) lf_impl_find fun x => (w_impl_find x).trans (impl_find_eq x.1 x.2.1 _)
noncomputable def c_impl_find : Con := Con.shape [.one (.dat (.sl tName)), .one (.dat .str)] [] (fun x => impl_find x.1 x.2.1) out_impl_find
theorem ok_impl_find : ConOk Try.prog 38 c_impl_find := Con.shape_ok sem_impl_find

/-! 18 -/
def C_impl_FindName : Cfg := { T := tab, hint := fun _ => { keepR := [0, 1, 4, 5, 6, 7, 10, 18], res := [4, 5] }, mode := fun _ => .borrow }
noncomputable def O_impl_FindName : Oracle := Oracle.of [(12, c_impl_NamesValid), (38, c_impl_find)]
noncomputable def L_impl_FindName : Loops := Loops.of []
theorem lf_impl_FindName : LoopsFn Try.prog C_impl_FindName O_impl_FindName 18 L_impl_FindName := LoopsFn.nil' (by kernel_rfl)
def out_impl_FindName (r : Int × Bool) : AV × Store := outT [.one (.dat I), .one (.dat .bool)] [] (r.1, r.2, ())
theorem w_impl_FindName (x : FAr [.one (.dat (.sl tName)), .one (.dat .str)] []) : evBodyK Try.prog C_impl_FindName O_impl_FindName L_impl_FindName 18 (encAr [.one (.dat (.sl tName)), .one (.dat .str)] [] x).1 (encAr [.one (.dat (.sl tName)), .one (.dat .str)] [] x).2 (fun v s => some (v, s)) =
    impl_FindNameK x.1 x.2.1 (fun r => some (out_impl_FindName r)) := by kernel_rfl
theorem sem_impl_FindName : ∀ x y, (fun x => impl_FindName x.1 x.2.1) x = some y → SemCall Try.prog 18 (encAr [.one (.dat (.sl tName)), .one (.dat .str)] [] x).1 (encAr [.one (.dat (.sl tName)), .one (.dat .str)] [] x).2 (out_impl_FindName y).1 (out_impl_FindName y).2 :=
  sem_of folP okP tabP (Oracle.of_ok (Oracle.cons_ok ok_impl_NamesValid (Oracle.cons_ok ok_impl_find Oracle.nil_ok))) lf_impl_FindName fun x => (w_impl_FindName x).trans (impl_FindName_eq x.1 x.2.1 _)
noncomputable def c_impl_FindName : Con := Con.shape [.one (.dat (.sl tName)), .one (.dat .str)] [] (fun x => impl_FindName x.1 x.2.1) out_impl_FindName
theorem ok_impl_FindName : ConOk Try.prog 18 c_impl_FindName := Con.shape_ok sem_impl_FindName

/-! 39 -/
def C_laws_eqName : Cfg := { T := tab, hint := fun _ => { keepR := [2, 3, 4, 9, 14, 19], res := [4] }, mode := fun _ => .borrow }
noncomputable def O_laws_eqName : Oracle := Oracle.of []
noncomputable def L_laws_eqName : Loops := Loops.of []
theorem lf_laws_eqName : LoopsFn Try.prog C_laws_eqName O_laws_eqName 39 L_laws_eqName := LoopsFn.nil' (by kernel_rfl)
def out_laws_eqName (r : Bool) : AV × Store := out1 (.one (.dat .bool)) [] (r, ())
theorem w_laws_eqName (x : FAr [.one (.dat tName), .one (.dat tName)] []) : evBodyK Try.prog C_laws_eqName O_laws_eqName L_laws_eqName 39 (encAr [.one (.dat tName), .one (.dat tName)] [] x).1 (encAr [.one (.dat tName), .one (.dat tName)] [] x).2 (fun v s => some (v, s)) =
    laws_eqNameK x.1 x.2.1 (fun r => some (out_laws_eqName r)) := by kernel_rfl
theorem sem_laws_eqName : ∀ x y, (fun x => laws_eqName x.1 x.2.1) x = some y → SemCall Try.prog 39 (encAr [.one (.dat tName), .one (.dat tName)] [] x).1 (encAr [.one (.dat tName), .one (.dat tName)] [] x).2 (out_laws_eqName y).1 (out_laws_eqName y).2 :=
  sem_of folP okP tabP (Oracle.of_ok Oracle.nil_ok) lf_laws_eqName fun x => (w_laws_eqName x).trans (laws_eqName_eq x.1 x.2.1 _)
noncomputable def c_laws_eqName : Con := Con.shape [.one (.dat tName), .one (.dat tName)] [] (fun x => laws_eqName x.1 x.2.1) out_laws_eqName
theorem ok_laws_eqName : ConOk Try.prog 39 c_laws_eqName := Con.shape_ok sem_laws_eqName

/-! 19 -/
def C_laws_eqNameS : Cfg := { T := tab, hint := fun _ => { keepR := [0, 1, 4, 5, 10, 14, 26], res := [4], order := [(6, [(0, .read), (1, .read), (2, .read), (3, .read), (4, .read), (5, .forced), (6, .forced), (7, .forced), (8, .forced), (9, .forced)])], keepL := [(0, [0, 1, 5])], keepX := [(0, []), (1, [0, 1, 5])] }, mode := fun _ => .borrow }
noncomputable def O_laws_eqNameS : Oracle := Oracle.of [(39, c_laws_eqName)]
def sh_laws_eqNameS_l0 : List (Nat × S2) := [(0, .one (.dat (.sl tName))), (1, .one (.dat (.sl tName))), (5, .one (.dat I))]
def bs_laws_eqNameS_l0 : List SB := []
noncomputable def lc_laws_eqNameS_l0 : LCon := LCon.shape sh_laws_eqNameS_l0 bs_laws_eqNameS_l0 laws_eqNameS_l0 (fun a => (.exit 0, encSt [] [] a)) (fun b => encSt [(4, .one (.dat .bool))] [] b)
noncomputable def L_laws_eqNameS : Loops := Loops.of [(0, lc_laws_eqNameS_l0)]
theorem r_laws_eqNameS_l0 (x : FSt sh_laws_eqNameS_l0 bs_laws_eqNameS_l0) : roundK C_laws_eqNameS.T (C_laws_eqNameS.hint 19) C_laws_eqNameS.mode O_laws_eqNameS L_laws_eqNameS 0 (lp Try.prog 19 0) (encSt sh_laws_eqNameS_l0 bs_laws_eqNameS_l0 x) (fun e s => some (e, s)) =
    laws_eqNameS_l0K x.1 x.2.1 x.2.2.1 (fun y => some (Ex.normal, encSt sh_laws_eqNameS_l0 bs_laws_eqNameS_l0 y)) (fun a => some (Ex.exit 0, encSt [] [] a)) (fun b => some (Ex.ret, encSt [(4, .one (.dat .bool))] [] b)) := by kernel_rfl
theorem lo_laws_eqNameS_l0 : LConOk C_laws_eqNameS.T (C_laws_eqNameS.hint 19) C_laws_eqNameS.mode O_laws_eqNameS L_laws_eqNameS 0 (lp Try.prog 19 0) lc_laws_eqNameS_l0 :=
  LCon.shape_ok (fun a => by simp) fun x => (r_laws_eqNameS_l0 x).trans (laws_eqNameS_l0_eq x.1 x.2.1 x.2.2.1 _ _ _)
theorem lf_laws_eqNameS : LoopsFn Try.prog C_laws_eqNameS O_laws_eqNameS 19 L_laws_eqNameS := LoopsFn.all (by kernel_rfl) (by decide) ⟨lo_laws_eqNameS_l0, trivial⟩
def out_laws_eqNameS (r : Bool) : AV × Store := out1 (.one (.dat .bool)) [] (r, ())
theorem w_laws_eqNameS (x : FAr [.one (.dat (.sl tName)), .one (.dat (.sl tName))] []) : evBodyK Try.prog C_laws_eqNameS O_laws_eqNameS L_laws_eqNameS 19 (encAr [.one (.dat (.sl tName)), .one (.dat (.sl tName))] [] x).1 (encAr [.one (.dat (.sl tName)), .one (.dat (.sl tName))] [] x).2 (fun v s => some (v, s)) =
    laws_eqNameSK x.1 x.2.1 (fun r => some (out_laws_eqNameS r)) := by kernel_rfl
theorem sem_laws_eqNameS : ∀ x y, (fun x => laws_eqNameS x.1 x.2.1) x = some y → SemCall Try.prog 19 (encAr [.one (.dat (.sl tName)), .one (.dat (.sl tName))] [] x).1 (encAr [.one (.dat (.sl tName)), .one (.dat (.sl tName))] [] x).2 (out_laws_eqNameS y).1 (out_laws_eqNameS y).2 :=
  sem_of folP okP tabP (Oracle.of_ok (Oracle.cons_ok ok_laws_eqName Oracle.nil_ok)) lf_laws_eqNameS fun x => (w_laws_eqNameS x).trans (laws_eqNameS_eq x.1 x.2.1 _)
noncomputable def c_laws_eqNameS : Con := Con.shape [.one (.dat (.sl tName)), .one (.dat (.sl tName))] [] (fun x => laws_eqNameS x.1 x.2.1) out_laws_eqNameS
theorem ok_laws_eqNameS : ConOk Try.prog 19 c_laws_eqNameS := Con.shape_ok sem_laws_eqNameS

/-! 4 -/
def C_laws_FnExactFindName : Cfg := { T := tab, hint := fun _ => { keepR := [0, 1, 4, 5, 6, 7, 8, 9, 10, 13, 18, 41, 46], res := [4] }, mode := fun _ => .borrow }
noncomputable def O_laws_FnExactFindName : Oracle := Oracle.of [(15, c_laws_szNameS), (16, c_spec_FindName), (17, c_laws_toNameS), (18, c_impl_FindName), (19, c_laws_eqNameS)]
noncomputable def L_laws_FnExactFindName : Loops := Loops.of []
theorem lf_laws_FnExactFindName : LoopsFn Try.prog C_laws_FnExactFindName O_laws_FnExactFindName 4 L_laws_FnExactFindName := LoopsFn.nil' (by kernel_rfl)
def out_laws_FnExactFindName (r : Bool) : AV × Store := out1 (.one (.dat .bool)) [] (r, ())
theorem w_laws_FnExactFindName (x : FAr [.one (.dat (.sl tName)), .one (.dat .str)] []) : evBodyK Try.prog C_laws_FnExactFindName O_laws_FnExactFindName L_laws_FnExactFindName 4 (encAr [.one (.dat (.sl tName)), .one (.dat .str)] [] x).1 (encAr [.one (.dat (.sl tName)), .one (.dat .str)] [] x).2 (fun v s => some (v, s)) =
    laws_FnExactFindNameK x.1 x.2.1 (fun r => some (out_laws_FnExactFindName r)) := by kernel_rfl
theorem sem_laws_FnExactFindName : ∀ x y, (fun x => laws_FnExactFindName x.1 x.2.1) x = some y → SemCall Try.prog 4 (encAr [.one (.dat (.sl tName)), .one (.dat .str)] [] x).1 (encAr [.one (.dat (.sl tName)), .one (.dat .str)] [] x).2 (out_laws_FnExactFindName y).1 (out_laws_FnExactFindName y).2 :=
  sem_of folP okP tabP (Oracle.of_ok (Oracle.cons_ok ok_laws_szNameS (Oracle.cons_ok ok_spec_FindName (Oracle.cons_ok ok_laws_toNameS (Oracle.cons_ok ok_impl_FindName (Oracle.cons_ok ok_laws_eqNameS Oracle.nil_ok)))))) lf_laws_FnExactFindName fun x => (w_laws_FnExactFindName x).trans (laws_FnExactFindName_eq x.1 x.2.1 _)
noncomputable def c_laws_FnExactFindName : Con := Con.shape [.one (.dat (.sl tName)), .one (.dat .str)] [] (fun x => laws_FnExactFindName x.1 x.2.1) out_laws_FnExactFindName
theorem ok_laws_FnExactFindName : ConOk Try.prog 4 c_laws_FnExactFindName := Con.shape_ok sem_laws_FnExactFindName

/-! 20 -/
def C_spec_DropNames : Cfg := { T := tab, hint := fun _ => { mu := [8, 32], keepR := [0, 1, 4, 5, 6, 7, 11, 16, 25], res := [4, 5], keepL := [(0, [0, 1, 6, 7])], keepX := [(0, [0, 6]), (1, [0, 1, 6, 7])] }, mode := fun _ => .borrow }
noncomputable def O_spec_DropNames : Oracle := Oracle.of [(13, c_spec_NamesValid)]
def sh_spec_DropNames_l0 : List (Nat × S2) := [(0, .one (.dat (.sl tName))), (1, .one (.dat I)), (6, .one (.all 0)), (7, .one (.dat I))]
def bs_spec_DropNames_l0 : List SB := [.data tName]
noncomputable def lc_spec_DropNames_l0 : LCon := LCon.shape1 sh_spec_DropNames_l0 bs_spec_DropNames_l0 spec_DropNames_l0 (fun a => (.exit 0, encSt [(0, .one (.dat (.sl tName))), (6, .one (.all 0))] [.data tName] a))
noncomputable def L_spec_DropNames : Loops := Loops.of [(0, lc_spec_DropNames_l0)]
theorem r_spec_DropNames_l0 (x : FSt sh_spec_DropNames_l0 bs_spec_DropNames_l0) : roundK C_spec_DropNames.T (C_spec_DropNames.hint 20) C_spec_DropNames.mode O_spec_DropNames L_spec_DropNames 0 (lp Try.prog 20 0) (encSt sh_spec_DropNames_l0 bs_spec_DropNames_l0 x) (fun e s => some (e, s)) =
    spec_DropNames_l0K x.1 x.2.1 x.2.2.1 x.2.2.2.1 (fun y => some (Ex.normal, encSt sh_spec_DropNames_l0 bs_spec_DropNames_l0 y)) (fun a => some (Ex.exit 0, encSt [(0, .one (.dat (.sl tName))), (6, .one (.all 0))] [.data tName] a)) := by kernel_rfl
theorem lo_spec_DropNames_l0 : LConOk C_spec_DropNames.T (C_spec_DropNames.hint 20) C_spec_DropNames.mode O_spec_DropNames L_spec_DropNames 0 (lp Try.prog 20 0) lc_spec_DropNames_l0 :=
  LCon.shape1_ok (fun a => by simp) fun x => (r_spec_DropNames_l0 x).trans (spec_DropNames_l0_eq x.1 x.2.1 x.2.2.1 x.2.2.2.1 _ _)
theorem lf_spec_DropNames : LoopsFn Try.prog C_spec_DropNames O_spec_DropNames 20 L_spec_DropNames := LoopsFn.all (by kernel_rfl) (by decide) ⟨lo_spec_DropNames_l0, trivial⟩
def out_spec_DropNames (r : Int × (List DName)) : AV × Store := outT [.one (.all 0), .one (.dat I)] [.data tName] (r.1, r.2, ())
theorem w_spec_DropNames (x : FAr [.one (.dat (.sl tName)), .one (.dat I)] []) : evBodyK Try.prog C_spec_DropNames O_spec_DropNames L_spec_DropNames 20 (encAr [.one (.dat (.sl tName)), .one (.dat I)] [] x).1 (encAr [.one (.dat (.sl tName)), .one (.dat I)] [] x).2 (fun v s => some (v, s)) =
    spec_DropNamesK x.1 x.2.1 (fun r => some (out_spec_DropNames r)) := by kernel_rfl
theorem sem_spec_DropNames : ∀ x y, (fun x => spec_DropNames x.1 x.2.1) x = some y → SemCall Try.prog 20 (encAr [.one (.dat (.sl tName)), .one (.dat I)] [] x).1 (encAr [.one (.dat (.sl tName)), .one (.dat I)] [] x).2 (out_spec_DropNames y).1 (out_spec_DropNames y).2 :=
  sem_of folP okP tabP (Oracle.of_ok (Oracle.cons_ok ok_spec_NamesValid Oracle.nil_ok)) lf_spec_DropNames fun x => (w_spec_DropNames x).trans (spec_DropNames_eq x.1 x.2.1 _)
noncomputable def c_spec_DropNames : Con := Con.shape [.one (.dat (.sl tName)), .one (.dat I)] [] (fun x => spec_DropNames x.1 x.2.1) out_spec_DropNames
theorem ok_spec_DropNames : ConOk Try.prog 20 c_spec_DropNames := Con.shape_ok sem_spec_DropNames

/-! 42 -/
def C_slices_Clone_Name : Cfg := { T := tab, hint := fun _ => { mu := [2, 7], keepR := [0, 2, 4], res := [2] }, mode := fun _ => .borrow }
noncomputable def O_slices_Clone_Name : Oracle := Oracle.of []
noncomputable def L_slices_Clone_Name : Loops := Loops.of []
theorem lf_slices_Clone_Name : LoopsFn Try.prog C_slices_Clone_Name O_slices_Clone_Name 42 L_slices_Clone_Name := LoopsFn.nil' (by kernel_rfl)
def out_slices_Clone_Name (r : (List DName)) : AV × Store := out1 (.one (.all 0)) [.data tName] (r, ())
theorem w_slices_Clone_Name (x : FAr [.one (.dat (.sl tName))] []) : evBodyK Try.prog C_slices_Clone_Name O_slices_Clone_Name L_slices_Clone_Name 42 (encAr [.one (.dat (.sl tName))] [] x).1 (encAr [.one (.dat (.sl tName))] [] x).2 (fun v s => some (v, s)) =
    slices_Clone_NameR x.1 (fun r => some (out_slices_Clone_Name r)) := by kernel_rfl
theorem sem_slices_Clone_Name : ∀ x y, (fun x => slices_Clone_Name x.1) x = some y → SemCall Try.prog 42 (encAr [.one (.dat (.sl tName))] [] x).1 (encAr [.one (.dat (.sl tName))] [] x).2 (out_slices_Clone_Name y).1 (out_slices_Clone_Name y).2 :=
  sem_of folP okP tabP (Oracle.of_ok Oracle.nil_ok) lf_slices_Clone_Name fun x => (w_slices_Clone_Name x).trans ((slices_Clone_Name_raw x.1 _).trans (slices_Clone_Name_eq x.1 _))
noncomputable def c_slices_Clone_Name : Con := Con.shape [.one (.dat (.sl tName))] [] (fun x => slices_Clone_Name x.1) out_slices_Clone_Name
theorem ok_slices_Clone_Name : ConOk Try.prog 42 c_slices_Clone_Name := Con.shape_ok sem_slices_Clone_Name

/-! 43 -/
def C_impl_DropNames_c1 : Cfg := { T := tab, hint := fun _ => { keepR := [1, 2, 3], res := [3] }, mode := fun _ => .borrow }
noncomputable def O_impl_DropNames_c1 : Oracle := Oracle.of []
noncomputable def L_impl_DropNames_c1 : Loops := Loops.of []
theorem lf_impl_DropNames_c1 : LoopsFn Try.prog C_impl_DropNames_c1 O_impl_DropNames_c1 43 L_impl_DropNames_c1 := LoopsFn.nil' (by kernel_rfl)
def out_impl_DropNames_c1 (r : Bool) : AV × Store := out1 (.one (.dat .bool)) [] (r, ())
theorem w_impl_DropNames_c1 (x : FAr [.one (.dat tName), .one (.cdat I 0)] []) : evBodyK Try.prog C_impl_DropNames_c1 O_impl_DropNames_c1 L_impl_DropNames_c1 43 (encAr [.one (.dat tName), .one (.cdat I 0)] [] x).1 (encAr [.one (.dat tName), .one (.cdat I 0)] [] x).2 (fun v s => some (v, s)) =
    impl_DropNames_c1K x.1 x.2.1 (fun r => some (out_impl_DropNames_c1 r)) := by kernel_rfl
theorem sem_impl_DropNames_c1 : ∀ x y, (fun x => impl_DropNames_c1 x.1 x.2.1) x = some y → SemCall Try.prog 43 (encAr [.one (.dat tName), .one (.cdat I 0)] [] x).1 (encAr [.one (.dat tName), .one (.cdat I 0)] [] x).2 (out_impl_DropNames_c1 y).1 (out_impl_DropNames_c1 y).2 :=
  sem_of folP okP tabP (Oracle.of_ok Oracle.nil_ok) lf_impl_DropNames_c1 fun x => (w_impl_DropNames_c1 x).trans (impl_DropNames_c1_eq x.1 x.2.1 _)
noncomputable def c_impl_DropNames_c1 : Con := Con.shape [.one (.dat tName), .one (.cdat I 0)] [] (fun x => impl_DropNames_c1 x.1 x.2.1) out_impl_DropNames_c1
theorem ok_impl_DropNames_c1 : ConOk Try.prog 43 c_impl_DropNames_c1 := Con.shape_ok sem_impl_DropNames_c1

/-! 58 -/
def C_slices_IndexFunc_Name : Cfg := { T := tab, hint := fun _ => { keepR := [0, 1, 4, 5, 7, 8, 9, 16], res := [4], keepL := [(0, [0, 1, 7, 8])], keepX := [(0, []), (1, [0, 1, 7, 8])] }, mode := fun _ => .borrow }
noncomputable def O_slices_IndexFunc_Name : Oracle := Oracle.of [(43, c_impl_DropNames_c1)]
def sh_slices_IndexFunc_Name_l0 : List (Nat × S2) := [(0, .one (.dat (.sl tName))), (1, .fn 43 [.cdat I 0]), (7, .one (.dat I)), (8, .one (.dat I))]
def bs_slices_IndexFunc_Name_l0 : List SB := []
noncomputable def lc_slices_IndexFunc_Name_l0 : LCon := LCon.shape sh_slices_IndexFunc_Name_l0 bs_slices_IndexFunc_Name_l0 slices_IndexFunc_Name_l0 (fun a => (.exit 0, encSt [] [] a)) (fun b => encSt [(4, .one (.dat I))] [] b)
noncomputable def L_slices_IndexFunc_Name : Loops := Loops.of [(0, lc_slices_IndexFunc_Name_l0)]
theorem r_slices_IndexFunc_Name_l0 (x : FSt sh_slices_IndexFunc_Name_l0 bs_slices_IndexFunc_Name_l0) : roundK C_slices_IndexFunc_Name.T (C_slices_IndexFunc_Name.hint 58) C_slices_IndexFunc_Name.mode O_slices_IndexFunc_Name L_slices_IndexFunc_Name 0 (lp Try.prog 58 0) (encSt sh_slices_IndexFunc_Name_l0 bs_slices_IndexFunc_Name_l0 x) (fun e s => some (e, s)) =
    slices_IndexFunc_Name_l0K x.1 x.2.1 x.2.2.1 x.2.2.2.1 (fun y => some (Ex.normal, encSt sh_slices_IndexFunc_Name_l0 bs_slices_IndexFunc_Name_l0 y)) (fun a => some (Ex.exit 0, encSt [] [] a)) (fun b => some (Ex.ret, encSt [(4, .one (.dat I))] [] b)) := by kernel_rfl
theorem lo_slices_IndexFunc_Name_l0 : LConOk C_slices_IndexFunc_Name.T (C_slices_IndexFunc_Name.hint 58) C_slices_IndexFunc_Name.mode O_slices_IndexFunc_Name L_slices_IndexFunc_Name 0 (lp Try.prog 58 0) lc_slices_IndexFunc_Name_l0 :=
  LCon.shape_ok (fun a => by simp) fun x => (r_slices_IndexFunc_Name_l0 x).trans (slices_IndexFunc_Name_l0_eq x.1 x.2.1 x.2.2.1 x.2.2.2.1 _ _ _)
theorem lf_slices_IndexFunc_Name : LoopsFn Try.prog C_slices_IndexFunc_Name O_slices_IndexFunc_Name 58 L_slices_IndexFunc_Name := LoopsFn.all (by kernel_rfl) (by decide) ⟨lo_slices_IndexFunc_Name_l0, trivial⟩
def out_slices_IndexFunc_Name (r : Int) : AV × Store := out1 (.one (.dat I)) [] (r, ())
theorem w_slices_IndexFunc_Name (x : FAr [.one (.dat (.sl tName)), .fn 43 [.cdat I 0]] []) : evBodyK Try.prog C_slices_IndexFunc_Name O_slices_IndexFunc_Name L_slices_IndexFunc_Name 58 (encAr [.one (.dat (.sl tName)), .fn 43 [.cdat I 0]] [] x).1 (encAr [.one (.dat (.sl tName)), .fn 43 [.cdat I 0]] [] x).2 (fun v s => some (v, s)) =
    slices_IndexFunc_NameK x.1 x.2.1 (fun r => some (out_slices_IndexFunc_Name r)) := by kernel_rfl
theorem sem_slices_IndexFunc_Name : ∀ x y, (fun x => slices_IndexFunc_Name x.1 x.2.1) x = some y → SemCall Try.prog 58 (encAr [.one (.dat (.sl tName)), .fn 43 [.cdat I 0]] [] x).1 (encAr [.one (.dat (.sl tName)), .fn 43 [.cdat I 0]] [] x).2 (out_slices_IndexFunc_Name y).1 (out_slices_IndexFunc_Name y).2 :=
  sem_of folP okP tabP (Oracle.of_ok (Oracle.cons_ok ok_impl_DropNames_c1 Oracle.nil_ok)) lf_slices_IndexFunc_Name fun x => (w_slices_IndexFunc_Name x).trans (slices_IndexFunc_Name_eq x.1 x.2.1 _)
noncomputable def c_slices_IndexFunc_Name : Con := Con.shape [.one (.dat (.sl tName)), .fn 43 [.cdat I 0]] [] (fun x => slices_IndexFunc_Name x.1 x.2.1) out_slices_IndexFunc_Name
theorem ok_slices_IndexFunc_Name : ConOk Try.prog 58 c_slices_IndexFunc_Name := Con.shape_ok sem_slices_IndexFunc_Name

/-! 41 -/
def C_slices_DeleteFunc_Name : Cfg := { T := tab, hint := fun _ => { mu := [7], keepR := [0, 1, 4, 5, 6, 7, 12, 19, 29], res := [4], base := 1, keepL := [(0, [0, 1, 5, 6])], keepX := [(0, [0, 5]), (1, [0, 1, 5, 6])], refR := true }, mode := fun _ => .borrow }
noncomputable def O_slices_DeleteFunc_Name : Oracle := Oracle.of [(43, c_impl_DropNames_c1), (58, c_slices_IndexFunc_Name)]
def sh_slices_DeleteFunc_Name_l0 : List (Nat × S2) := [(0, .one (.all 0)), (1, .fn 43 [.cdat I 0]), (5, .one (.dat I)), (6, .one (.dat I))]
def bs_slices_DeleteFunc_Name_l0 : List SB := [.data tName]
noncomputable def lc_slices_DeleteFunc_Name_l0 : LCon := LCon.shape1 sh_slices_DeleteFunc_Name_l0 bs_slices_DeleteFunc_Name_l0 slices_DeleteFunc_Name_l0 (fun a => (.exit 0, encSt [(0, .one (.all 0)), (5, .one (.dat I))] [.data tName] a))
noncomputable def L_slices_DeleteFunc_Name : Loops := Loops.of [(0, lc_slices_DeleteFunc_Name_l0)]
theorem r_slices_DeleteFunc_Name_l0 (x : FSt sh_slices_DeleteFunc_Name_l0 bs_slices_DeleteFunc_Name_l0) : roundK C_slices_DeleteFunc_Name.T (C_slices_DeleteFunc_Name.hint 41) C_slices_DeleteFunc_Name.mode O_slices_DeleteFunc_Name L_slices_DeleteFunc_Name 0 (lp Try.prog 41 0) (encSt sh_slices_DeleteFunc_Name_l0 bs_slices_DeleteFunc_Name_l0 x) (fun e s => some (e, s)) =
    slices_DeleteFunc_Name_l0K x.1 x.2.1 x.2.2.1 x.2.2.2.1 (fun y => some (Ex.normal, encSt sh_slices_DeleteFunc_Name_l0 bs_slices_DeleteFunc_Name_l0 y)) (fun a => some (Ex.exit 0, encSt [(0, .one (.all 0)), (5, .one (.dat I))] [.data tName] a)) := by kernel_rfl
theorem lo_slices_DeleteFunc_Name_l0 : LConOk C_slices_DeleteFunc_Name.T (C_slices_DeleteFunc_Name.hint 41) C_slices_DeleteFunc_Name.mode O_slices_DeleteFunc_Name L_slices_DeleteFunc_Name 0 (lp Try.prog 41 0) lc_slices_DeleteFunc_Name_l0 :=
  LCon.shape1_ok (fun a => by simp) fun x => (r_slices_DeleteFunc_Name_l0 x).trans (slices_DeleteFunc_Name_l0_eq x.1 x.2.1 x.2.2.1 x.2.2.2.1 _ _)
theorem lf_slices_DeleteFunc_Name : LoopsFn Try.prog C_slices_DeleteFunc_Name O_slices_DeleteFunc_Name 41 L_slices_DeleteFunc_Name := LoopsFn.all (by kernel_rfl) (by decide) ⟨lo_slices_DeleteFunc_Name_l0, trivial⟩
def out_slices_DeleteFunc_Name (r : Nat × (List DName)) : AV × Store := out1 (.one (.refn 0)) [.data tName] (r.1, r.2, ())
theorem w_slices_DeleteFunc_Name (x : FAr [.one (.all 0), .fn 43 [.cdat I 0]] [.data tName]) : evBodyK Try.prog C_slices_DeleteFunc_Name O_slices_DeleteFunc_Name L_slices_DeleteFunc_Name 41 (encAr [.one (.all 0), .fn 43 [.cdat I 0]] [.data tName] x).1 (encAr [.one (.all 0), .fn 43 [.cdat I 0]] [.data tName] x).2 (fun v s => some (v, s)) =
    slices_DeleteFunc_NameK x.1 x.2.1 (fun r => some (out_slices_DeleteFunc_Name r)) := by kernel_rfl
theorem sem_slices_DeleteFunc_Name : ∀ x y, (fun x => slices_DeleteFunc_Name x.1 x.2.1) x = some y → SemCall Try.prog 41 (encAr [.one (.all 0), .fn 43 [.cdat I 0]] [.data tName] x).1 (encAr [.one (.all 0), .fn 43 [.cdat I 0]] [.data tName] x).2 (out_slices_DeleteFunc_Name y).1 (out_slices_DeleteFunc_Name y).2 :=
  sem_of folP okP tabP (Oracle.of_ok (Oracle.cons_ok ok_impl_DropNames_c1 (Oracle.cons_ok ok_slices_IndexFunc_Name Oracle.nil_ok))) lf_slices_DeleteFunc_Name fun x => (w_slices_DeleteFunc_Name x).trans (slices_DeleteFunc_Name_eq x.1 x.2.1 _)
noncomputable def c_slices_DeleteFunc_Name : Con := Con.shape [.one (.all 0), .fn 43 [.cdat I 0]] [.data tName] (fun x => slices_DeleteFunc_Name x.1 x.2.1) out_slices_DeleteFunc_Name
theorem ok_slices_DeleteFunc_Name : ConOk Try.prog 41 c_slices_DeleteFunc_Name := Con.shape_ok sem_slices_DeleteFunc_Name

/-! 40 -/
def C_slices_Clip_Name : Cfg := { T := tab, hint := fun _ => { mu := [8], keepR := [0, 2], res := [2], base := 1 }, mode := fun _ => .borrow }
noncomputable def O_slices_Clip_Name : Oracle := Oracle.of []
noncomputable def L_slices_Clip_Name : Loops := Loops.of []
theorem lf_slices_Clip_Name : LoopsFn Try.prog C_slices_Clip_Name O_slices_Clip_Name 40 L_slices_Clip_Name := LoopsFn.nil' (by kernel_rfl)
def out_slices_Clip_Name (r : Nat × (List DName)) : AV × Store := out1 (.one (.reft 0)) [.data tName] (r.1, r.2, ())
theorem w_slices_Clip_Name (x : FAr [.one (.refn 0)] [.data tName]) : evBodyK Try.prog C_slices_Clip_Name O_slices_Clip_Name L_slices_Clip_Name 40 (encAr [.one (.refn 0)] [.data tName] x).1 (encAr [.one (.refn 0)] [.data tName] x).2 (fun v s => some (v, s)) =
    slices_Clip_NameK x.1 x.2.1 (fun r => some (out_slices_Clip_Name r)) := by kernel_rfl
theorem sem_slices_Clip_Name : ∀ x y, (fun x => slices_Clip_Name x.1 x.2.1) x = some y → SemCall Try.prog 40 (encAr [.one (.refn 0)] [.data tName] x).1 (encAr [.one (.refn 0)] [.data tName] x).2 (out_slices_Clip_Name y).1 (out_slices_Clip_Name y).2 :=
  sem_of folP okP tabP (Oracle.of_ok Oracle.nil_ok) lf_slices_Clip_Name fun x => (w_slices_Clip_Name x).trans (slices_Clip_Name_eq x.1 x.2.1 _)
noncomputable def c_slices_Clip_Name : Con := Con.shape [.one (.refn 0)] [.data tName] (fun x => slices_Clip_Name x.1 x.2.1) out_slices_Clip_Name
theorem ok_slices_Clip_Name : ConOk Try.prog 40 c_slices_Clip_Name := Con.shape_ok sem_slices_Clip_Name

/-! 21 -/
def C_impl_DropNames : Cfg := { T := tab, hint := fun _ => { mu := [11], keepR := [0, 3, 4, 5, 6, 9], res := [4, 5], fillT := true }, mode := modeOf [(40, .sub), (41, .sub)] }
noncomputable def O_impl_DropNames : Oracle := Oracle.of [(12, c_impl_NamesValid), (40, c_slices_Clip_Name), (41, c_slices_DeleteFunc_Name), (42, c_slices_Clone_Name)]
noncomputable def L_impl_DropNames : Loops := Loops.of []
theorem lf_impl_DropNames : LoopsFn Try.prog C_impl_DropNames O_impl_DropNames 21 L_impl_DropNames := LoopsFn.nil' (by kernel_rfl)
def out_impl_DropNames (r : Nat × Int × (List DName)) : AV × Store := outT [.one (.reft 0), .one (.dat I)] [.data tName] (r.1, r.2.1, r.2.2, ())
theorem w_impl_DropNames (x : FAr [.one (.dat (.sl tName)), .one (.dat I)] []) : evBodyK Try.prog C_impl_DropNames O_impl_DropNames L_impl_DropNames 21 (encAr [.one (.dat (.sl tName)), .one (.dat I)] [] x).1 (encAr [.one (.dat (.sl tName)), .one (.dat I)] [] x).2 (fun v s => some (v, s)) =
    impl_DropNamesK x.1 x.2.1 (fun r => some (out_impl_DropNames r)) := by kernel_rfl
theorem sem_impl_DropNames : ∀ x y, (fun x => impl_DropNames x.1 x.2.1) x = some y → SemCall Try.prog 21 (encAr [.one (.dat (.sl tName)), .one (.dat I)] [] x).1 (encAr [.one (.dat (.sl tName)), .one (.dat I)] [] x).2 (out_impl_DropNames y).1 (out_impl_DropNames y).2 :=
  sem_of folP okP tabP (Oracle.of_ok (Oracle.cons_ok ok_impl_NamesValid (Oracle.cons_ok ok_slices_Clip_Name (Oracle.cons_ok ok_slices_DeleteFunc_Name (Oracle.cons_ok ok_slices_Clone_Name Oracle.nil_ok))))) lf_impl_DropNames fun x => (w_impl_DropNames x).trans (impl_DropNames_eq x.1 x.2.1 _)
noncomputable def c_impl_DropNames : Con := Con.shape [.one (.dat (.sl tName)), .one (.dat I)] [] (fun x => impl_DropNames x.1 x.2.1) out_impl_DropNames
theorem ok_impl_DropNames : ConOk Try.prog 21 c_impl_DropNames := Con.shape_ok sem_impl_DropNames

/-! 44 -/
def C_laws_markText : Cfg := { T := tab, hint := fun _ => { keepR := [0, 2, 3, 5, 7], res := [2], keepL := [(0, [0, 3])], keepX := [(0, [3]), (1, [0, 3])] }, mode := fun _ => .borrow }
noncomputable def O_laws_markText : Oracle := Oracle.of []
def sh_laws_markText_l0 : List (Nat × S2) := [(0, .one (.dat I)), (3, .one (.dat .str))]
def bs_laws_markText_l0 : List SB := []
noncomputable def lc_laws_markText_l0 : LCon := LCon.shape1 sh_laws_markText_l0 bs_laws_markText_l0 laws_markText_l0 (fun a => (.exit 0, encSt [(3, .one (.dat .str))] [] a))
noncomputable def L_laws_markText : Loops := Loops.of [(0, lc_laws_markText_l0)]
theorem r_laws_markText_l0 (x : FSt sh_laws_markText_l0 bs_laws_markText_l0) : roundK C_laws_markText.T (C_laws_markText.hint 44) C_laws_markText.mode O_laws_markText L_laws_markText 0 (lp Try.prog 44 0) (encSt sh_laws_markText_l0 bs_laws_markText_l0 x) (fun e s => some (e, s)) =
    laws_markText_l0K x.1 x.2.1 (fun y => some (Ex.normal, encSt sh_laws_markText_l0 bs_laws_markText_l0 y)) (fun a => some (Ex.exit 0, encSt [(3, .one (.dat .str))] [] a)) := by kernel_rfl
theorem lo_laws_markText_l0 : LConOk C_laws_markText.T (C_laws_markText.hint 44) C_laws_markText.mode O_laws_markText L_laws_markText 0 (lp Try.prog 44 0) lc_laws_markText_l0 :=
  LCon.shape1_ok (fun a => by simp) fun x => (r_laws_markText_l0 x).trans (laws_markText_l0_eq x.1 x.2.1 _ _)
theorem lf_laws_markText : LoopsFn Try.prog C_laws_markText O_laws_markText 44 L_laws_markText := LoopsFn.all (by kernel_rfl) (by decide) ⟨lo_laws_markText_l0, trivial⟩
def out_laws_markText (r : ByteArray) : AV × Store := out1 (.one (.dat .str)) [] (r, ())
theorem w_laws_markText (x : FAr [.one (.dat I)] []) : evBodyK Try.prog C_laws_markText O_laws_markText L_laws_markText 44 (encAr [.one (.dat I)] [] x).1 (encAr [.one (.dat I)] [] x).2 (fun v s => some (v, s)) =
    laws_markTextK x.1 (fun r => some (out_laws_markText r)) := by kernel_rfl
theorem sem_laws_markText : ∀ x y, (fun x => laws_markText x.1) x = some y → SemCall Try.prog 44 (encAr [.one (.dat I)] [] x).1 (encAr [.one (.dat I)] [] x).2 (out_laws_markText y).1 (out_laws_markText y).2 :=
  sem_of folP okP tabP (Oracle.of_ok Oracle.nil_ok) lf_laws_markText fun x => (w_laws_markText x).trans (laws_markText_eq x.1 _)
noncomputable def c_laws_markText : Con := Con.shape [.one (.dat I)] [] (fun x => laws_markText x.1) out_laws_markText
theorem ok_laws_markText : ConOk Try.prog 44 c_laws_markText := Con.shape_ok sem_laws_markText

/-! 22 -/
def C_laws_markNameS : Cfg := { T := tab, hint := fun _ => { keepR := [0, 1, 4, 5, 9], res := [4], base := 1, keepL := [(0, [0, 1, 5])], keepX := [(0, [1]), (1, [0, 1, 5])] }, mode := fun _ => .borrow }
noncomputable def O_laws_markNameS : Oracle := Oracle.of [(44, c_laws_markText)]
def sh_laws_markNameS_l0 : List (Nat × S2) := [(0, .one (.all 0)), (1, .one (.dat I)), (5, .one (.dat I))]
def bs_laws_markNameS_l0 : List SB := [.data tName]
noncomputable def lc_laws_markNameS_l0 : LCon := LCon.shape1 sh_laws_markNameS_l0 bs_laws_markNameS_l0 laws_markNameS_l0 (fun a => (.exit 0, encSt [(1, .one (.dat I))] [.data tName] a))
noncomputable def L_laws_markNameS : Loops := Loops.of [(0, lc_laws_markNameS_l0)]
theorem r_laws_markNameS_l0 (x : FSt sh_laws_markNameS_l0 bs_laws_markNameS_l0) : roundK C_laws_markNameS.T (C_laws_markNameS.hint 22) C_laws_markNameS.mode O_laws_markNameS L_laws_markNameS 0 (lp Try.prog 22 0) (encSt sh_laws_markNameS_l0 bs_laws_markNameS_l0 x) (fun e s => some (e, s)) =
    laws_markNameS_l0K x.1 x.2.1 x.2.2.1 (fun y => some (Ex.normal, encSt sh_laws_markNameS_l0 bs_laws_markNameS_l0 y)) (fun a => some (Ex.exit 0, encSt [(1, .one (.dat I))] [.data tName] a)) := by kernel_rfl
theorem lo_laws_markNameS_l0 : LConOk C_laws_markNameS.T (C_laws_markNameS.hint 22) C_laws_markNameS.mode O_laws_markNameS L_laws_markNameS 0 (lp Try.prog 22 0) lc_laws_markNameS_l0 :=
  LCon.shape1_ok (fun a => by simp) fun x => (r_laws_markNameS_l0 x).trans (laws_markNameS_l0_eq x.1 x.2.1 x.2.2.1 _ _)
theorem lf_laws_markNameS : LoopsFn Try.prog C_laws_markNameS O_laws_markNameS 22 L_laws_markNameS := LoopsFn.all (by kernel_rfl) (by decide) ⟨lo_laws_markNameS_l0, trivial⟩
def out_laws_markNameS (r : Int × (List DName)) : AV × Store := out1 (.one (.dat I)) [.data tName] (r.1, r.2, ())
theorem w_laws_markNameS (x : FAr [.one (.all 0), .one (.dat I)] [.data tName]) : evBodyK Try.prog C_laws_markNameS O_laws_markNameS L_laws_markNameS 22 (encAr [.one (.all 0), .one (.dat I)] [.data tName] x).1 (encAr [.one (.all 0), .one (.dat I)] [.data tName] x).2 (fun v s => some (v, s)) =
    laws_markNameSK x.1 x.2.1 (fun r => some (out_laws_markNameS r)) := by kernel_rfl
theorem sem_laws_markNameS : ∀ x y, (fun x => laws_markNameS x.1 x.2.1) x = some y → SemCall Try.prog 22 (encAr [.one (.all 0), .one (.dat I)] [.data tName] x).1 (encAr [.one (.all 0), .one (.dat I)] [.data tName] x).2 (out_laws_markNameS y).1 (out_laws_markNameS y).2 :=
  sem_of folP okP tabP (Oracle.of_ok (Oracle.cons_ok ok_laws_markText Oracle.nil_ok)) lf_laws_markNameS fun x => (w_laws_markNameS x).trans (laws_markNameS_eq x.1 x.2.1 _)
noncomputable def c_laws_markNameS : Con := Con.shape [.one (.all 0), .one (.dat I)] [.data tName] (fun x => laws_markNameS x.1 x.2.1) out_laws_markNameS
theorem ok_laws_markNameS : ConOk Try.prog 22 c_laws_markNameS := Con.shape_ok sem_laws_markNameS

/-! 22 -/
def C_laws_markNameS_v2 : Cfg := { T := tab, hint := fun _ => { keepR := [0, 1, 4, 5, 9], res := [4], base := 1, keepL := [(0, [0, 1, 5])], keepX := [(0, [1]), (1, [0, 1, 5])] }, mode := fun _ => .borrow }
noncomputable def O_laws_markNameS_v2 : Oracle := Oracle.of [(44, c_laws_markText)]
def sh_laws_markNameS_v2_l0 : List (Nat × S2) := [(0, .one (.refx 0)), (1, .one (.dat I)), (5, .one (.dat I))]
def bs_laws_markNameS_v2_l0 : List SB := [.data tName]
noncomputable def lc_laws_markNameS_v2_l0 : LCon := LCon.shape1 sh_laws_markNameS_v2_l0 bs_laws_markNameS_v2_l0 laws_markNameS_v2_l0 (fun a => (.exit 0, encSt [(1, .one (.dat I))] [.data tName] a))
noncomputable def L_laws_markNameS_v2 : Loops := Loops.of [(0, lc_laws_markNameS_v2_l0)]
theorem r_laws_markNameS_v2_l0 (x : FSt sh_laws_markNameS_v2_l0 bs_laws_markNameS_v2_l0) : roundK C_laws_markNameS_v2.T (C_laws_markNameS_v2.hint 22) C_laws_markNameS_v2.mode O_laws_markNameS_v2 L_laws_markNameS_v2 0 (lp Try.prog 22 0) (encSt sh_laws_markNameS_v2_l0 bs_laws_markNameS_v2_l0 x) (fun e s => some (e, s)) =
    laws_markNameS_v2_l0K x.1 x.2.1 x.2.2.1 x.2.2.2.1 x.2.2.2.2.1 (fun y => some (Ex.normal, encSt sh_laws_markNameS_v2_l0 bs_laws_markNameS_v2_l0 y)) (fun a => some (Ex.exit 0, encSt [(1, .one (.dat I))] [.data tName] a)) := by kernel_rfl
theorem lo_laws_markNameS_v2_l0 : LConOk C_laws_markNameS_v2.T (C_laws_markNameS_v2.hint 22) C_laws_markNameS_v2.mode O_laws_markNameS_v2 L_laws_markNameS_v2 0 (lp Try.prog 22 0) lc_laws_markNameS_v2_l0 :=
  LCon.shape1_ok (fun a => by simp) fun x => (r_laws_markNameS_v2_l0 x).trans (laws_markNameS_v2_l0_eq x.1 x.2.1 x.2.2.1 x.2.2.2.1 x.2.2.2.2.1 _ _)
theorem lf_laws_markNameS_v2 : LoopsFn Try.prog C_laws_markNameS_v2 O_laws_markNameS_v2 22 L_laws_markNameS_v2 := LoopsFn.all (by kernel_rfl) (by decide) ⟨lo_laws_markNameS_v2_l0, trivial⟩
def out_laws_markNameS_v2 (r : Int × (List DName)) : AV × Store := out1 (.one (.dat I)) [.data tName] (r.1, r.2, ())
theorem w_laws_markNameS_v2 (x : FAr [.one (.refx 0), .one (.dat I)] [.data tName]) : evBodyK Try.prog C_laws_markNameS_v2 O_laws_markNameS_v2 L_laws_markNameS_v2 22 (encAr [.one (.refx 0), .one (.dat I)] [.data tName] x).1 (encAr [.one (.refx 0), .one (.dat I)] [.data tName] x).2 (fun v s => some (v, s)) =
    laws_markNameS_v2K x.1 x.2.1 x.2.2.1 x.2.2.2.1 (fun r => some (out_laws_markNameS_v2 r)) := by kernel_rfl
theorem sem_laws_markNameS_v2 : ∀ x y, (fun x => laws_markNameS_v2 x.1 x.2.1 x.2.2.1 x.2.2.2.1) x = some y → SemCall Try.prog 22 (encAr [.one (.refx 0), .one (.dat I)] [.data tName] x).1 (encAr [.one (.refx 0), .one (.dat I)] [.data tName] x).2 (out_laws_markNameS_v2 y).1 (out_laws_markNameS_v2 y).2 :=
  sem_of folP okP tabP (Oracle.of_ok (Oracle.cons_ok ok_laws_markText Oracle.nil_ok)) lf_laws_markNameS_v2 fun x => (w_laws_markNameS_v2 x).trans (laws_markNameS_v2_eq x.1 x.2.1 x.2.2.1 x.2.2.2.1 _)
noncomputable def c_laws_markNameS_v2 : Con := Con.shape [.one (.refx 0), .one (.dat I)] [.data tName] (fun x => laws_markNameS_v2 x.1 x.2.1 x.2.2.1 x.2.2.2.1) out_laws_markNameS_v2
theorem ok_laws_markNameS_v2 : ConOk Try.prog 22 c_laws_markNameS_v2 := Con.shape_ok sem_laws_markNameS_v2

/-! 23 -/
def C_laws_heldNameS : Cfg := { T := tab, hint := fun _ => { keepR := [0, 1, 4, 5, 9, 19, 28, 37], res := [4], order := [(4, [(0, .read), (1, .read), (2, .read), (3, .read), (4, .read), (5, .forced), (6, .forced), (7, .forced)])], keepL := [(0, [0, 1, 5])], keepX := [(0, [1]), (1, [0, 1, 5])] }, mode := fun _ => .borrow }
noncomputable def O_laws_heldNameS : Oracle := Oracle.of [(44, c_laws_markText)]
def sh_laws_heldNameS_l0 : List (Nat × S2) := [(0, .one (.dat (.sl tName))), (1, .one (.dat I)), (5, .one (.dat I))]
def bs_laws_heldNameS_l0 : List SB := []
noncomputable def lc_laws_heldNameS_l0 : LCon := LCon.shape sh_laws_heldNameS_l0 bs_laws_heldNameS_l0 laws_heldNameS_l0 (fun a => (.exit 0, encSt [(1, .one (.dat I))] [] a)) (fun b => encSt [(4, .one (.dat I))] [] b)
noncomputable def L_laws_heldNameS : Loops := Loops.of [(0, lc_laws_heldNameS_l0)]
theorem r_laws_heldNameS_l0 (x : FSt sh_laws_heldNameS_l0 bs_laws_heldNameS_l0) : roundK C_laws_heldNameS.T (C_laws_heldNameS.hint 23) C_laws_heldNameS.mode O_laws_heldNameS L_laws_heldNameS 0 (lp Try.prog 23 0) (encSt sh_laws_heldNameS_l0 bs_laws_heldNameS_l0 x) (fun e s => some (e, s)) =
    laws_heldNameS_l0K x.1 x.2.1 x.2.2.1 (fun y => some (Ex.normal, encSt sh_laws_heldNameS_l0 bs_laws_heldNameS_l0 y)) (fun a => some (Ex.exit 0, encSt [(1, .one (.dat I))] [] a)) (fun b => some (Ex.ret, encSt [(4, .one (.dat I))] [] b)) := by kernel_rfl
theorem lo_laws_heldNameS_l0 : LConOk C_laws_heldNameS.T (C_laws_heldNameS.hint 23) C_laws_heldNameS.mode O_laws_heldNameS L_laws_heldNameS 0 (lp Try.prog 23 0) lc_laws_heldNameS_l0 :=
  LCon.shape_ok (fun a => by simp) fun x => (r_laws_heldNameS_l0 x).trans (laws_heldNameS_l0_eq x.1 x.2.1 x.2.2.1 _ _ _)
theorem lf_laws_heldNameS : LoopsFn Try.prog C_laws_heldNameS O_laws_heldNameS 23 L_laws_heldNameS := LoopsFn.all (by kernel_rfl) (by decide) ⟨lo_laws_heldNameS_l0, trivial⟩
def out_laws_heldNameS (r : Int) : AV × Store := out1 (.one (.dat I)) [] (r, ())
theorem w_laws_heldNameS (x : FAr [.one (.dat (.sl tName)), .one (.dat I)] []) : evBodyK Try.prog C_laws_heldNameS O_laws_heldNameS L_laws_heldNameS 23 (encAr [.one (.dat (.sl tName)), .one (.dat I)] [] x).1 (encAr [.one (.dat (.sl tName)), .one (.dat I)] [] x).2 (fun v s => some (v, s)) =
    laws_heldNameSK x.1 x.2.1 (fun r => some (out_laws_heldNameS r)) := by kernel_rfl
theorem sem_laws_heldNameS : ∀ x y, (fun x => laws_heldNameS x.1 x.2.1) x = some y → SemCall Try.prog 23 (encAr [.one (.dat (.sl tName)), .one (.dat I)] [] x).1 (encAr [.one (.dat (.sl tName)), .one (.dat I)] [] x).2 (out_laws_heldNameS y).1 (out_laws_heldNameS y).2 :=
  sem_of folP okP tabP (Oracle.of_ok (Oracle.cons_ok ok_laws_markText Oracle.nil_ok)) lf_laws_heldNameS fun x => (w_laws_heldNameS x).trans (laws_heldNameS_eq x.1 x.2.1 _)
noncomputable def c_laws_heldNameS : Con := Con.shape [.one (.dat (.sl tName)), .one (.dat I)] [] (fun x => laws_heldNameS x.1 x.2.1) out_laws_heldNameS
theorem ok_laws_heldNameS : ConOk Try.prog 23 c_laws_heldNameS := Con.shape_ok sem_laws_heldNameS

/-! 5 -/
def C_laws_FnExactDropNames : Cfg := { T := tab, hint := fun _ => { mu := [29, 33], keepR := [0, 1, 4, 5, 6, 7, 8, 9, 10, 11, 12, 13, 14, 15, 20, 44, 49, 65, 73, 76, 92, 97, 100], res := [4] }, mode := modeOf [(22, .sub)] }
noncomputable def O_laws_FnExactDropNames : Oracle := Oracle.of [(15, c_laws_szNameS), (17, c_laws_toNameS), (19, c_laws_eqNameS), (20, c_spec_DropNames), (21, c_impl_DropNames), (22, Con.shape2 [.one (.all 0), .one (.dat I)] [.data tName] (fun x => laws_markNameS x.1 x.2.1) out_laws_markNameS (c_laws_markNameS_v2)), (23, c_laws_heldNameS)]
noncomputable def L_laws_FnExactDropNames : Loops := Loops.of []
theorem lf_laws_FnExactDropNames : LoopsFn Try.prog C_laws_FnExactDropNames O_laws_FnExactDropNames 5 L_laws_FnExactDropNames := LoopsFn.nil' (by kernel_rfl)
def out_laws_FnExactDropNames (r : Bool) : AV × Store := out1 (.one (.dat .bool)) [] (r, ())
theorem w_laws_FnExactDropNames (x : FAr [.one (.dat (.sl tName)), .one (.dat I)] []) : evBodyK Try.prog C_laws_FnExactDropNames O_laws_FnExactDropNames L_laws_FnExactDropNames 5 (encAr [.one (.dat (.sl tName)), .one (.dat I)] [] x).1 (encAr [.one (.dat (.sl tName)), .one (.dat I)] [] x).2 (fun v s => some (v, s)) =
    laws_FnExactDropNamesK x.1 x.2.1 (fun r => some (out_laws_FnExactDropNames r)) := by kernel_rfl
theorem sem_laws_FnExactDropNames : ∀ x y, (fun x => laws_FnExactDropNames x.1 x.2.1) x = some y → SemCall Try.prog 5 (encAr [.one (.dat (.sl tName)), .one (.dat I)] [] x).1 (encAr [.one (.dat (.sl tName)), .one (.dat I)] [] x).2 (out_laws_FnExactDropNames y).1 (out_laws_FnExactDropNames y).2 :=
  sem_of folP okP tabP (Oracle.of_ok (Oracle.cons_ok ok_laws_szNameS (Oracle.cons_ok ok_laws_toNameS (Oracle.cons_ok ok_laws_eqNameS (Oracle.cons_ok ok_spec_DropNames (Oracle.cons_ok ok_impl_DropNames (Oracle.cons_ok (Con.shape2_ok sem_laws_markNameS ok_laws_markNameS_v2) (Oracle.cons_ok ok_laws_heldNameS Oracle.nil_ok)))))))) lf_laws_FnExactDropNames fun x => (w_laws_FnExactDropNames x).trans (laws_FnExactDropNames_eq x.1 x.2.1 _)
noncomputable def c_laws_FnExactDropNames : Con := Con.shape [.one (.dat (.sl tName)), .one (.dat I)] [] (fun x => laws_FnExactDropNames x.1 x.2.1) out_laws_FnExactDropNames
theorem ok_laws_FnExactDropNames : ConOk Try.prog 5 c_laws_FnExactDropNames := Con.shape_ok sem_laws_FnExactDropNames

/-! 24 -/
def C_spec_DrawFindName : Cfg := { T := tab, hint := fun _ => { mu := [7], keepR := [0, 2, 3, 4, 5], res := [2, 3] }, mode := modeOf [(32, .sub), (45, .sub)] }
noncomputable def O_spec_DrawFindName : Oracle := Oracle.of [(32, c_spec_l20Names), (33, c_spec_l20Open), (45, c_spec_l20Text)]
noncomputable def L_spec_DrawFindName : Loops := Loops.of []
theorem lf_spec_DrawFindName : LoopsFn Try.prog C_spec_DrawFindName O_spec_DrawFindName 24 L_spec_DrawFindName := LoopsFn.nil' (by kernel_rfl)
def out_spec_DrawFindName (r : ByteArray × (List DName)) : AV × Store := outT [.one (.all 0), .one (.dat .str)] [.data tName] (r.1, r.2, ())
theorem w_spec_DrawFindName (x : FAr [.one (.dat (.sl (.int .u8)))] []) : evBodyK Try.prog C_spec_DrawFindName O_spec_DrawFindName L_spec_DrawFindName 24 (encAr [.one (.dat (.sl (.int .u8)))] [] x).1 (encAr [.one (.dat (.sl (.int .u8)))] [] x).2 (fun v s => some (v, s)) =
    spec_DrawFindNameK x.1 (fun r => some (out_spec_DrawFindName r)) := by kernel_rfl
theorem sem_spec_DrawFindName : ∀ x y, (fun x => spec_DrawFindName x.1) x = some y → SemCall Try.prog 24 (encAr [.one (.dat (.sl (.int .u8)))] [] x).1 (encAr [.one (.dat (.sl (.int .u8)))] [] x).2 (out_spec_DrawFindName y).1 (out_spec_DrawFindName y).2 :=
  sem_of folP okP tabP (Oracle.of_ok (Oracle.cons_ok ok_spec_l20Names (Oracle.cons_ok ok_spec_l20Open (Oracle.cons_ok ok_spec_l20Text Oracle.nil_ok)))) lf_spec_DrawFindName fun x => (w_spec_DrawFindName x).trans (spec_DrawFindName_eq x.1 _)
noncomputable def c_spec_DrawFindName : Con := Con.shape [.one (.dat (.sl (.int .u8)))] [] (fun x => spec_DrawFindName x.1) out_spec_DrawFindName
theorem ok_spec_DrawFindName : ConOk Try.prog 24 c_spec_DrawFindName := Con.shape_ok sem_spec_DrawFindName

/-! 6 -/
def C_laws_FnFindName : Cfg := { T := tab, hint := fun _ => { keepR := [0, 2, 3, 4, 5, 6, 7, 8, 9, 10, 13, 38, 46, 55, 64], res := [2], keepL := [(0, [3, 4, 5, 6, 9, 10])], keepX := [(0, [5, 6, 9]), (1, [3, 4, 5, 6, 9, 10])] }, mode := fun _ => .borrow }
noncomputable def O_laws_FnFindName : Oracle := Oracle.of [(13, c_spec_NamesValid), (14, c_laws_alive), (16, c_spec_FindName), (18, c_impl_FindName), (24, c_spec_DrawFindName)]
def sh_laws_FnFindName_l0 : List (Nat × S2) := [(3, .one (.dat (.sl tName))), (4, .one (.dat .str)), (5, .one (.dat I)), (6, .one (.dat .bool)), (9, .one (.dat I)), (10, .one (.dat I))]
def bs_laws_FnFindName_l0 : List SB := []
noncomputable def lc_laws_FnFindName_l0 : LCon := LCon.shape sh_laws_FnFindName_l0 bs_laws_FnFindName_l0 laws_FnFindName_l0 (fun a => (.exit 0, encSt [(5, .one (.dat I)), (6, .one (.dat .bool)), (9, .one (.dat I))] [] a)) (fun b => encSt [(2, .one (.dat .bool))] [] b)
noncomputable def L_laws_FnFindName : Loops := Loops.of [(0, lc_laws_FnFindName_l0)]
theorem r_laws_FnFindName_l0 (x : FSt sh_laws_FnFindName_l0 bs_laws_FnFindName_l0) : roundK C_laws_FnFindName.T (C_laws_FnFindName.hint 6) C_laws_FnFindName.mode O_laws_FnFindName L_laws_FnFindName 0 (lp Try.prog 6 0) (encSt sh_laws_FnFindName_l0 bs_laws_FnFindName_l0 x) (fun e s => some (e, s)) =
    laws_FnFindName_l0K x.1 x.2.1 x.2.2.1 x.2.2.2.1 x.2.2.2.2.1 x.2.2.2.2.2.1 (fun y => some (Ex.normal, encSt sh_laws_FnFindName_l0 bs_laws_FnFindName_l0 y)) (fun a => some (Ex.exit 0, encSt [(5, .one (.dat I)), (6, .one (.dat .bool)), (9, .one (.dat I))] [] a)) (fun b => some (Ex.ret, encSt [(2, .one (.dat .bool))] [] b)) := by kernel_rfl
theorem lo_laws_FnFindName_l0 : LConOk C_laws_FnFindName.T (C_laws_FnFindName.hint 6) C_laws_FnFindName.mode O_laws_FnFindName L_laws_FnFindName 0 (lp Try.prog 6 0) lc_laws_FnFindName_l0 :=
  LCon.shape_ok (fun a => by simp) fun x => (r_laws_FnFindName_l0 x).trans (laws_FnFindName_l0_eq x.1 x.2.1 x.2.2.1 x.2.2.2.1 x.2.2.2.2.1 x.2.2.2.2.2.1 _ _ _)
theorem lf_laws_FnFindName : LoopsFn Try.prog C_laws_FnFindName O_laws_FnFindName 6 L_laws_FnFindName := LoopsFn.all (by kernel_rfl) (by decide) ⟨lo_laws_FnFindName_l0, trivial⟩
def out_laws_FnFindName (r : Bool) : AV × Store := out1 (.one (.dat .bool)) [] (r, ())
theorem w_laws_FnFindName (x : FAr [.one (.dat (.sl (.int .u8)))] []) : evBodyK Try.prog C_laws_FnFindName O_laws_FnFindName L_laws_FnFindName 6 (encAr [.one (.dat (.sl (.int .u8)))] [] x).1 (encAr [.one (.dat (.sl (.int .u8)))] [] x).2 (fun v s => some (v, s)) =
    laws_FnFindNameK x.1 (fun r => some (out_laws_FnFindName r)) := by kernel_rfl
theorem sem_laws_FnFindName : ∀ x y, (fun x => laws_FnFindName x.1) x = some y → SemCall Try.prog 6 (encAr [.one (.dat (.sl (.int .u8)))] [] x).1 (encAr [.one (.dat (.sl (.int .u8)))] [] x).2 (out_laws_FnFindName y).1 (out_laws_FnFindName y).2 :=
  sem_of folP okP tabP (Oracle.of_ok (Oracle.cons_ok ok_spec_NamesValid (Oracle.cons_ok ok_laws_alive (Oracle.cons_ok ok_spec_FindName (Oracle.cons_ok ok_impl_FindName (Oracle.cons_ok ok_spec_DrawFindName Oracle.nil_ok)))))) lf_laws_FnFindName fun x => (w_laws_FnFindName x).trans (laws_FnFindName_eq x.1 _)
noncomputable def c_laws_FnFindName : Con := Con.shape [.one (.dat (.sl (.int .u8)))] [] (fun x => laws_FnFindName x.1) out_laws_FnFindName
theorem ok_laws_FnFindName : ConOk Try.prog 6 c_laws_FnFindName := Con.shape_ok sem_laws_FnFindName

/-! 25 -/
def C_spec_DrawDropNames : Cfg := { T := tab, hint := fun _ => { mu := [7], keepR := [0, 2, 3, 4, 5], res := [2, 3] }, mode := modeOf [(32, .sub), (46, .sub)] }
noncomputable def O_spec_DrawDropNames : Oracle := Oracle.of [(32, c_spec_l20Names), (33, c_spec_l20Open), (46, c_spec_l20Rd_pick)]
noncomputable def L_spec_DrawDropNames : Loops := Loops.of []
theorem lf_spec_DrawDropNames : LoopsFn Try.prog C_spec_DrawDropNames O_spec_DrawDropNames 25 L_spec_DrawDropNames := LoopsFn.nil' (by kernel_rfl)
def out_spec_DrawDropNames (r : Int × (List DName)) : AV × Store := outT [.one (.all 0), .one (.dat I)] [.data tName] (r.1, r.2, ())
theorem w_spec_DrawDropNames (x : FAr [.one (.dat (.sl (.int .u8)))] []) : evBodyK Try.prog C_spec_DrawDropNames O_spec_DrawDropNames L_spec_DrawDropNames 25 (encAr [.one (.dat (.sl (.int .u8)))] [] x).1 (encAr [.one (.dat (.sl (.int .u8)))] [] x).2 (fun v s => some (v, s)) =
    spec_DrawDropNamesK x.1 (fun r => some (out_spec_DrawDropNames r)) := by kernel_rfl
theorem sem_spec_DrawDropNames : ∀ x y, (fun x => spec_DrawDropNames x.1) x = some y → SemCall Try.prog 25 (encAr [.one (.dat (.sl (.int .u8)))] [] x).1 (encAr [.one (.dat (.sl (.int .u8)))] [] x).2 (out_spec_DrawDropNames y).1 (out_spec_DrawDropNames y).2 :=
  sem_of folP okP tabP (Oracle.of_ok (Oracle.cons_ok ok_spec_l20Names (Oracle.cons_ok ok_spec_l20Open (Oracle.cons_ok ok_spec_l20Rd_pick Oracle.nil_ok)))) lf_spec_DrawDropNames fun x => (w_spec_DrawDropNames x).trans (spec_DrawDropNames_eq x.1 _)
noncomputable def c_spec_DrawDropNames : Con := Con.shape [.one (.dat (.sl (.int .u8)))] [] (fun x => spec_DrawDropNames x.1) out_spec_DrawDropNames
theorem ok_spec_DrawDropNames : ConOk Try.prog 25 c_spec_DrawDropNames := Con.shape_ok sem_spec_DrawDropNames

/-! 26 -/
def C_laws_sameNames : Cfg := { T := tab, hint := fun _ => { keepR := [0, 1, 4, 5, 10, 14, 25], res := [4], order := [(6, [(0, .read), (1, .read), (2, .read), (3, .read), (4, .read), (5, .forced), (6, .forced), (7, .forced), (8, .forced)])], keepL := [(0, [0, 1, 5])], keepX := [(0, []), (1, [0, 1, 5])] }, mode := fun _ => .borrow }
noncomputable def O_laws_sameNames : Oracle := Oracle.of []
def sh_laws_sameNames_l0 : List (Nat × S2) := [(0, .one (.dat (.sl tName))), (1, .one (.dat (.sl tName))), (5, .one (.dat I))]
def bs_laws_sameNames_l0 : List SB := []
noncomputable def lc_laws_sameNames_l0 : LCon := LCon.shape sh_laws_sameNames_l0 bs_laws_sameNames_l0 laws_sameNames_l0 (fun a => (.exit 0, encSt [] [] a)) (fun b => encSt [(4, .one (.dat .bool))] [] b)
noncomputable def L_laws_sameNames : Loops := Loops.of [(0, lc_laws_sameNames_l0)]
theorem r_laws_sameNames_l0 (x : FSt sh_laws_sameNames_l0 bs_laws_sameNames_l0) : roundK C_laws_sameNames.T (C_laws_sameNames.hint 26) C_laws_sameNames.mode O_laws_sameNames L_laws_sameNames 0 (lp Try.prog 26 0) (encSt sh_laws_sameNames_l0 bs_laws_sameNames_l0 x) (fun e s => some (e, s)) =
    laws_sameNames_l0K x.1 x.2.1 x.2.2.1 (fun y => some (Ex.normal, encSt sh_laws_sameNames_l0 bs_laws_sameNames_l0 y)) (fun a => some (Ex.exit 0, encSt [] [] a)) (fun b => some (Ex.ret, encSt [(4, .one (.dat .bool))] [] b)) := by kernel_rfl
theorem lo_laws_sameNames_l0 : LConOk C_laws_sameNames.T (C_laws_sameNames.hint 26) C_laws_sameNames.mode O_laws_sameNames L_laws_sameNames 0 (lp Try.prog 26 0) lc_laws_sameNames_l0 :=
  LCon.shape_ok (fun a => by simp) fun x => (r_laws_sameNames_l0 x).trans (laws_sameNames_l0_eq x.1 x.2.1 x.2.2.1 _ _ _)
theorem lf_laws_sameNames : LoopsFn Try.prog C_laws_sameNames O_laws_sameNames 26 L_laws_sameNames := LoopsFn.all (by kernel_rfl) (by decide) ⟨lo_laws_sameNames_l0, trivial⟩
def out_laws_sameNames (r : Bool) : AV × Store := out1 (.one (.dat .bool)) [] (r, ())
theorem w_laws_sameNames (x : FAr [.one (.dat (.sl tName)), .one (.dat (.sl tName))] []) : evBodyK Try.prog C_laws_sameNames O_laws_sameNames L_laws_sameNames 26 (encAr [.one (.dat (.sl tName)), .one (.dat (.sl tName))] [] x).1 (encAr [.one (.dat (.sl tName)), .one (.dat (.sl tName))] [] x).2 (fun v s => some (v, s)) =
    laws_sameNamesK x.1 x.2.1 (fun r => some (out_laws_sameNames r)) := by kernel_rfl
theorem sem_laws_sameNames : ∀ x y, (fun x => laws_sameNames x.1 x.2.1) x = some y → SemCall Try.prog 26 (encAr [.one (.dat (.sl tName)), .one (.dat (.sl tName))] [] x).1 (encAr [.one (.dat (.sl tName)), .one (.dat (.sl tName))] [] x).2 (out_laws_sameNames y).1 (out_laws_sameNames y).2 :=
  sem_of folP okP tabP (Oracle.of_ok Oracle.nil_ok) lf_laws_sameNames fun x => (w_laws_sameNames x).trans (laws_sameNames_eq x.1 x.2.1 _)
noncomputable def c_laws_sameNames : Con := Con.shape [.one (.dat (.sl tName)), .one (.dat (.sl tName))] [] (fun x => laws_sameNames x.1 x.2.1) out_laws_sameNames
theorem ok_laws_sameNames : ConOk Try.prog 26 c_laws_sameNames := Con.shape_ok sem_laws_sameNames

/-! 7 -/
def C_laws_FnDropNames : Cfg := { T := tab, hint := fun _ => { keepR := [0, 2, 3, 4, 5, 6, 7, 8, 9, 10, 11, 14, 40, 43, 57, 90], res := [2], keepL := [(0, [3, 4, 5, 6, 9])], keepX := [(0, [3, 5, 6]), (1, [3, 4, 5, 6, 9])] }, mode := fun _ => .borrow }
noncomputable def O_laws_FnDropNames : Oracle := Oracle.of [(12, c_impl_NamesValid), (13, c_spec_NamesValid), (14, c_laws_alive), (18, c_impl_FindName), (20, c_spec_DropNames), (21, c_impl_DropNames), (25, c_spec_DrawDropNames), (26, c_laws_sameNames)]
def sh_laws_FnDropNames_l0 : List (Nat × S2) := [(3, .one (.dat (.sl tName))), (4, .one (.dat I)), (5, .one (.dat (.sl tName))), (6, .one (.dat I)), (9, .one (.dat I))]
def bs_laws_FnDropNames_l0 : List SB := []
noncomputable def lc_laws_FnDropNames_l0 : LCon := LCon.shape sh_laws_FnDropNames_l0 bs_laws_FnDropNames_l0 laws_FnDropNames_l0 (fun a => (.exit 0, encSt [(3, .one (.dat (.sl tName))), (5, .one (.dat (.sl tName))), (6, .one (.dat I))] [] a)) (fun b => encSt [(2, .one (.dat .bool))] [] b)
noncomputable def L_laws_FnDropNames : Loops := Loops.of [(0, lc_laws_FnDropNames_l0)]
theorem r_laws_FnDropNames_l0 (x : FSt sh_laws_FnDropNames_l0 bs_laws_FnDropNames_l0) : roundK C_laws_FnDropNames.T (C_laws_FnDropNames.hint 7) C_laws_FnDropNames.mode O_laws_FnDropNames L_laws_FnDropNames 0 (lp Try.prog 7 0) (encSt sh_laws_FnDropNames_l0 bs_laws_FnDropNames_l0 x) (fun e s => some (e, s)) =
    laws_FnDropNames_l0K x.1 x.2.1 x.2.2.1 x.2.2.2.1 x.2.2.2.2.1 (fun y => some (Ex.normal, encSt sh_laws_FnDropNames_l0 bs_laws_FnDropNames_l0 y)) (fun a => some (Ex.exit 0, encSt [(3, .one (.dat (.sl tName))), (5, .one (.dat (.sl tName))), (6, .one (.dat I))] [] a)) (fun b => some (Ex.ret, encSt [(2, .one (.dat .bool))] [] b)) := by kernel_rfl
theorem lo_laws_FnDropNames_l0 : LConOk C_laws_FnDropNames.T (C_laws_FnDropNames.hint 7) C_laws_FnDropNames.mode O_laws_FnDropNames L_laws_FnDropNames 0 (lp Try.prog 7 0) lc_laws_FnDropNames_l0 :=
  LCon.shape_ok (fun a => by simp) fun x => (r_laws_FnDropNames_l0 x).trans (laws_FnDropNames_l0_eq x.1 x.2.1 x.2.2.1 x.2.2.2.1 x.2.2.2.2.1 _ _ _)
theorem lf_laws_FnDropNames : LoopsFn Try.prog C_laws_FnDropNames O_laws_FnDropNames 7 L_laws_FnDropNames := LoopsFn.all (by kernel_rfl) (by decide) ⟨lo_laws_FnDropNames_l0, trivial⟩
def out_laws_FnDropNames (r : Bool) : AV × Store := out1 (.one (.dat .bool)) [] (r, ())
theorem w_laws_FnDropNames (x : FAr [.one (.dat (.sl (.int .u8)))] []) : evBodyK Try.prog C_laws_FnDropNames O_laws_FnDropNames L_laws_FnDropNames 7 (encAr [.one (.dat (.sl (.int .u8)))] [] x).1 (encAr [.one (.dat (.sl (.int .u8)))] [] x).2 (fun v s => some (v, s)) =
    laws_FnDropNamesK x.1 (fun r => some (out_laws_FnDropNames r)) := by kernel_rfl
theorem sem_laws_FnDropNames : ∀ x y, (fun x => laws_FnDropNames x.1) x = some y → SemCall Try.prog 7 (encAr [.one (.dat (.sl (.int .u8)))] [] x).1 (encAr [.one (.dat (.sl (.int .u8)))] [] x).2 (out_laws_FnDropNames y).1 (out_laws_FnDropNames y).2 :=
  sem_of folP okP tabP (Oracle.of_ok (Oracle.cons_ok ok_impl_NamesValid (Oracle.cons_ok ok_spec_NamesValid (Oracle.cons_ok ok_laws_alive (Oracle.cons_ok ok_impl_FindName (Oracle.cons_ok ok_spec_DropNames (Oracle.cons_ok ok_impl_DropNames (Oracle.cons_ok ok_spec_DrawDropNames (Oracle.cons_ok ok_laws_sameNames Oracle.nil_ok))))))))) lf_laws_FnDropNames fun x => (w_laws_FnDropNames x).trans (laws_FnDropNames_eq x.1 _)
noncomputable def c_laws_FnDropNames : Con := Con.shape [.one (.dat (.sl (.int .u8)))] [] (fun x => laws_FnDropNames x.1) out_laws_FnDropNames
theorem ok_laws_FnDropNames : ConOk Try.prog 7 c_laws_FnDropNames := Con.shape_ok sem_laws_FnDropNames

/-! 40 -/
def C_slices_Clip_Name_v2 : Cfg := { T := tab, hint := fun _ => { mu := [8], keepR := [0, 2], res := [2], base := 1 }, mode := fun _ => .borrow }
noncomputable def O_slices_Clip_Name_v2 : Oracle := Oracle.of []
noncomputable def L_slices_Clip_Name_v2 : Loops := Loops.of []
theorem lf_slices_Clip_Name_v2 : LoopsFn Try.prog C_slices_Clip_Name_v2 O_slices_Clip_Name_v2 40 L_slices_Clip_Name_v2 := LoopsFn.nil' (by kernel_rfl)
def out_slices_Clip_Name_v2 (r : (List DName)) : AV × Store := out1 (.one (.all 0)) [.data tName] (r, ())
theorem w_slices_Clip_Name_v2 (x : FAr [.one (.all 0)] [.data tName]) : evBodyK Try.prog C_slices_Clip_Name_v2 O_slices_Clip_Name_v2 L_slices_Clip_Name_v2 40 (encAr [.one (.all 0)] [.data tName] x).1 (encAr [.one (.all 0)] [.data tName] x).2 (fun v s => some (v, s)) =
    slices_Clip_Name_v2K x.1 (fun r => some (out_slices_Clip_Name_v2 r)) := by kernel_rfl
theorem sem_slices_Clip_Name_v2 : ∀ x y, (fun x => slices_Clip_Name_v2 x.1) x = some y → SemCall Try.prog 40 (encAr [.one (.all 0)] [.data tName] x).1 (encAr [.one (.all 0)] [.data tName] x).2 (out_slices_Clip_Name_v2 y).1 (out_slices_Clip_Name_v2 y).2 :=
  sem_of folP okP tabP (Oracle.of_ok Oracle.nil_ok) lf_slices_Clip_Name_v2 fun x => (w_slices_Clip_Name_v2 x).trans (slices_Clip_Name_v2_eq x.1 _)
noncomputable def c_slices_Clip_Name_v2 : Con := Con.shape [.one (.all 0)] [.data tName] (fun x => slices_Clip_Name_v2 x.1) out_slices_Clip_Name_v2
theorem ok_slices_Clip_Name_v2 : ConOk Try.prog 40 c_slices_Clip_Name_v2 := Con.shape_ok sem_slices_Clip_Name_v2

/-! 47 -/
def C_impl_clone_Name : Cfg := { T := tab, hint := fun _ => { mu := [4], keepR := [0, 2], res := [2] }, mode := modeOf [(40, .sub)] }
noncomputable def O_impl_clone_Name : Oracle := Oracle.of [(40, c_slices_Clip_Name_v2), (42, c_slices_Clone_Name)]
noncomputable def L_impl_clone_Name : Loops := Loops.of []
theorem lf_impl_clone_Name : LoopsFn Try.prog C_impl_clone_Name O_impl_clone_Name 47 L_impl_clone_Name := LoopsFn.nil' (by kernel_rfl)
def out_impl_clone_Name (r : (List DName)) : AV × Store := out1 (.one (.all 0)) [.data tName] (r, ())
theorem w_impl_clone_Name (x : FAr [.one (.dat (.sl tName))] []) : evBodyK Try.prog C_impl_clone_Name O_impl_clone_Name L_impl_clone_Name 47 (encAr [.one (.dat (.sl tName))] [] x).1 (encAr [.one (.dat (.sl tName))] [] x).2 (fun v s => some (v, s)) =
    impl_clone_NameK x.1 (fun r => some (out_impl_clone_Name r)) := by kernel_rfl
theorem sem_impl_clone_Name : ∀ x y, (fun x => impl_clone_Name x.1) x = some y → SemCall Try.prog 47 (encAr [.one (.dat (.sl tName))] [] x).1 (encAr [.one (.dat (.sl tName))] [] x).2 (out_impl_clone_Name y).1 (out_impl_clone_Name y).2 :=
  sem_of folP okP tabP (Oracle.of_ok (Oracle.cons_ok ok_slices_Clip_Name_v2 (Oracle.cons_ok ok_slices_Clone_Name Oracle.nil_ok))) lf_impl_clone_Name fun x => (w_impl_clone_Name x).trans (impl_clone_Name_eq x.1 _)
noncomputable def c_impl_clone_Name : Con := Con.shape [.one (.dat (.sl tName))] [] (fun x => impl_clone_Name x.1) out_impl_clone_Name
theorem ok_impl_clone_Name : ConOk Try.prog 47 c_impl_clone_Name := Con.shape_ok sem_impl_clone_Name

/-! 59 -/
noncomputable def c_slices_overlaps_Name : Con := Con.apart
theorem ok_slices_overlaps_Name : ConOk Try.prog 59 c_slices_overlaps_Name := Con.apart_ok (A := tName) (tS := 23) (tR := 4) Try.func59 (by kernel_rfl) (by kernel_rfl) (by kernel_rfl) (by kernel_rfl) (tabP _ _ (by kernel_rfl))

/-! 48 -/
def C_slices_Insert_Name_room : Cfg := { T := tab, hint := fun _ => { mu := [25, 40], keepR := [0, 1, 2, 6, 7, 8, 9, 16, 22, 31, 68], res := [6], base := 1, order := [(11, [(0, .read), (1, .read), (2, .read), (3, .read), (4, .read), (5, .read), (6, .forced), (7, .forced), (8, .forced)]), (15, [(0, .read), (1, .read), (2, .read), (3, .read), (4, .read), (5, .read), (6, .forced), (7, .forced), (8, .forced)])], own := true }, mode := modeOf [(59, .sub)] }
noncomputable def O_slices_Insert_Name_room : Oracle := Oracle.of [(59, c_slices_overlaps_Name)]
noncomputable def L_slices_Insert_Name_room : Loops := Loops.of []
theorem lf_slices_Insert_Name_room : LoopsFn Try.prog C_slices_Insert_Name_room O_slices_Insert_Name_room 48 L_slices_Insert_Name_room := LoopsFn.nil' (by kernel_rfl)
def out_slices_Insert_Name_room (r : (List DName)) : AV × Store := out1 (.one (.all 1)) [.dead, .data tName] (r, ())
theorem w_slices_Insert_Name_room (x : FAr [.one (.refx 0), .one (.dat I), .one (.dat (.sl tName))] [.data tName]) : evBodyK Try.prog C_slices_Insert_Name_room O_slices_Insert_Name_room L_slices_Insert_Name_room 48 (encAr [.one (.refx 0), .one (.dat I), .one (.dat (.sl tName))] [.data tName] x).1 (encAr [.one (.refx 0), .one (.dat I), .one (.dat (.sl tName))] [.data tName] x).2 (fun v s => some (v, s)) =
    slices_Insert_Name_roomK x.1 x.2.1 x.2.2.1 x.2.2.2.1 x.2.2.2.2.1 (fun r => some (out_slices_Insert_Name_room r)) := by kernel_rfl
theorem sem_slices_Insert_Name_room : ∀ x y, (fun x => slices_Insert_Name_room x.1 x.2.1 x.2.2.1 x.2.2.2.1 x.2.2.2.2.1) x = some y → SemCall Try.prog 48 (encAr [.one (.refx 0), .one (.dat I), .one (.dat (.sl tName))] [.data tName] x).1 (encAr [.one (.refx 0), .one (.dat I), .one (.dat (.sl tName))] [.data tName] x).2 (out_slices_Insert_Name_room y).1 (out_slices_Insert_Name_room y).2 :=
  sem_of folP okP tabP (Oracle.of_ok (Oracle.cons_ok ok_slices_overlaps_Name Oracle.nil_ok)) lf_slices_Insert_Name_room fun x => (w_slices_Insert_Name_room x).trans (slices_Insert_Name_room_eq x.1 x.2.1 x.2.2.1 x.2.2.2.1 x.2.2.2.2.1 _)
noncomputable def c_slices_Insert_Name_room : Con := Con.shape [.one (.refx 0), .one (.dat I), .one (.dat (.sl tName))] [.data tName] (fun x => slices_Insert_Name_room x.1 x.2.1 x.2.2.1 x.2.2.2.1 x.2.2.2.2.1) out_slices_Insert_Name_room
theorem ok_slices_Insert_Name_room : ConOk Try.prog 48 c_slices_Insert_Name_room := Con.shape_ok sem_slices_Insert_Name_room

/-! 48 -/
def out_slices_Insert_Name (r : (List DName)) : AV × Store := out1 (.one (.all 1)) [.dead, .data tName] (r, ())
theorem sem_slices_Insert_Name : ∀ x y, (fun x => slices_Insert_Name x.1 x.2.1 x.2.2.1) x = some y → SemCall Try.prog 48 (encAr [.one (.all 0), .one (.dat I), .one (.dat (.sl tName))] [.data tName] x).1 (encAr [.one (.all 0), .one (.dat I), .one (.dat (.sl tName))] [.data tName] x).2 (out_slices_Insert_Name y).1 (out_slices_Insert_Name y).2 := fun x y h =>
  sem_room rfl fun js => sem_slices_Insert_Name_room (x.2.2.1.length, (x.2.2.1 ++ js).length, x.1, x.2.1, x.2.2.1 ++ js, ()) y (slices_Insert_Name_roomy js h)
noncomputable def c_slices_Insert_Name : Con := Con.shape [.one (.all 0), .one (.dat I), .one (.dat (.sl tName))] [.data tName] (fun x => slices_Insert_Name x.1 x.2.1 x.2.2.1) out_slices_Insert_Name
theorem ok_slices_Insert_Name : ConOk Try.prog 48 c_slices_Insert_Name := Con.shape_ok sem_slices_Insert_Name

/-! 30 -/
def C_impl_PutName : Cfg := { T := tab, hint := fun _ => { mu := [4, 18, 58], keep := [26], keepR := [0, 3, 4, 5, 6, 7, 8, 16, 26, 46], res := [4, 5], order := [(5, [(0, .forced), (1, .forced), (2, .read), (3, .read), (4, .read), (5, .read), (6, .read), (7, .forced), (8, .forced), (9, .forced), (10, .forced), (11, .forced)])], keepX := [(0, [3, 6, 7])] }, mode := modeOf [(48, .sub)] }
noncomputable def O_impl_PutName : Oracle := Oracle.of [(12, c_impl_NamesValid), (34, c_impl_Name_may), (38, c_impl_find), (47, c_impl_clone_Name), (48, c_slices_Insert_Name)]
noncomputable def L_impl_PutName : Loops := Loops.of []
theorem lf_impl_PutName : LoopsFn Try.prog C_impl_PutName O_impl_PutName 30 L_impl_PutName := LoopsFn.nil' (by kernel_rfl)
def out_impl_PutName (r : Bool × (List DName)) : AV × Store := outT [.one (.all 0), .one (.dat .bool)] [.data tName] (r.1, r.2, ())
theorem w_impl_PutName (x : FAr [.one (.dat (.sl tName)), .one (.dat tName)] []) : evBodyK Try.prog C_impl_PutName O_impl_PutName L_impl_PutName 30 (encAr [.one (.dat (.sl tName)), .one (.dat tName)] [] x).1 (encAr [.one (.dat (.sl tName)), .one (.dat tName)] [] x).2 (fun v s => some (v, s)) =
    impl_PutNameK x.1 x.2.1 (fun r => some (out_impl_PutName r)) := by kernel_rfl
theorem sem_impl_PutName : ∀ x y, (fun x => impl_PutName x.1 x.2.1) x = some y → SemCall Try.prog 30 (encAr [.one (.dat (.sl tName)), .one (.dat tName)] [] x).1 (encAr [.one (.dat (.sl tName)), .one (.dat tName)] [] x).2 (out_impl_PutName y).1 (out_impl_PutName y).2 :=
  sem_of folP okP tabP (Oracle.of_ok (Oracle.cons_ok ok_impl_NamesValid (Oracle.cons_ok ok_impl_Name_may (Oracle.cons_ok ok_impl_find (Oracle.cons_ok ok_impl_clone_Name (Oracle.cons_ok ok_slices_Insert_Name Oracle.nil_ok)))))) lf_impl_PutName fun x => (w_impl_PutName x).trans (impl_PutName_eq x.1 x.2.1 _)
noncomputable def c_impl_PutName : Con := Con.shape [.one (.dat (.sl tName)), .one (.dat tName)] [] (fun x => impl_PutName x.1 x.2.1) out_impl_PutName
theorem ok_impl_PutName : ConOk Try.prog 30 c_impl_PutName := Con.shape_ok sem_impl_PutName

/-! 8 -/
def C_laws_FnExactPutName : Cfg := { T := tab, hint := fun _ => { mu := [35, 40], keepR := [0, 3, 4, 5, 6, 7, 8, 9, 10, 11, 12, 13, 14, 15, 20, 25, 51, 56, 72, 80, 83, 100, 105, 108], res := [4], order := [(8, [(0, .read), (1, .read), (2, .forced), (3, .forced), (4, .forced), (5, .forced), (6, .read), (7, .read), (8, .forced), (9, .forced)]), (27, [(0, .read), (1, .read), (2, .forced), (3, .forced), (4, .forced), (5, .forced), (6, .read), (7, .read), (8, .forced), (9, .forced)])] }, mode := modeOf [(22, .sub)] }
noncomputable def O_laws_FnExactPutName : Oracle := Oracle.of [(15, c_laws_szNameS), (17, c_laws_toNameS), (19, c_laws_eqNameS), (22, c_laws_markNameS), (23, c_laws_heldNameS), (27, c_laws_szName), (28, c_spec_PutName), (29, c_laws_toName), (30, c_impl_PutName)]
noncomputable def L_laws_FnExactPutName : Loops := Loops.of []
theorem lf_laws_FnExactPutName : LoopsFn Try.prog C_laws_FnExactPutName O_laws_FnExactPutName 8 L_laws_FnExactPutName := LoopsFn.nil' (by kernel_rfl)
def out_laws_FnExactPutName (r : Bool) : AV × Store := out1 (.one (.dat .bool)) [] (r, ())
theorem w_laws_FnExactPutName (x : FAr [.one (.dat (.sl tName)), .one (.dat tName)] []) : evBodyK Try.prog C_laws_FnExactPutName O_laws_FnExactPutName L_laws_FnExactPutName 8 (encAr [.one (.dat (.sl tName)), .one (.dat tName)] [] x).1 (encAr [.one (.dat (.sl tName)), .one (.dat tName)] [] x).2 (fun v s => some (v, s)) =
    laws_FnExactPutNameK x.1 x.2.1 (fun r => some (out_laws_FnExactPutName r)) := by kernel_rfl
theorem sem_laws_FnExactPutName : ∀ x y, (fun x => laws_FnExactPutName x.1 x.2.1) x = some y → SemCall Try.prog 8 (encAr [.one (.dat (.sl tName)), .one (.dat tName)] [] x).1 (encAr [.one (.dat (.sl tName)), .one (.dat tName)] [] x).2 (out_laws_FnExactPutName y).1 (out_laws_FnExactPutName y).2 :=
  sem_of folP okP tabP (Oracle.of_ok (Oracle.cons_ok ok_laws_szNameS (Oracle.cons_ok ok_laws_toNameS (Oracle.cons_ok ok_laws_eqNameS (Oracle.cons_ok ok_laws_markNameS (Oracle.cons_ok ok_laws_heldNameS (Oracle.cons_ok ok_laws_szName (Oracle.cons_ok ok_spec_PutName (Oracle.cons_ok ok_laws_toName (Oracle.cons_ok ok_impl_PutName Oracle.nil_ok)))))))))) lf_laws_FnExactPutName fun x => (w_laws_FnExactPutName x).trans (laws_FnExactPutName_eq x.1 x.2.1 _)
noncomputable def c_laws_FnExactPutName : Con := Con.shape [.one (.dat (.sl tName)), .one (.dat tName)] [] (fun x => laws_FnExactPutName x.1 x.2.1) out_laws_FnExactPutName
theorem ok_laws_FnExactPutName : ConOk Try.prog 8 c_laws_FnExactPutName := Con.shape_ok sem_laws_FnExactPutName

/-! 31 -/
def C_spec_DrawPutName : Cfg := { T := tab, hint := fun _ => { mu := [3, 7], keepR := [0, 2, 3, 4, 5], res := [2, 3] }, mode := modeOf [(32, .sub), (45, .sub), (46, .sub)] }
noncomputable def O_spec_DrawPutName : Oracle := Oracle.of [(32, c_spec_l20Names), (33, c_spec_l20Open), (45, c_spec_l20Text), (46, c_spec_l20Rd_pick)]
noncomputable def L_spec_DrawPutName : Loops := Loops.of []
theorem lf_spec_DrawPutName : LoopsFn Try.prog C_spec_DrawPutName O_spec_DrawPutName 31 L_spec_DrawPutName := LoopsFn.nil' (by kernel_rfl)
def out_spec_DrawPutName (r : DName × (List DName)) : AV × Store := outT [.one (.all 0), .one (.dat tName)] [.data tName] (r.1, r.2, ())
theorem w_spec_DrawPutName (x : FAr [.one (.dat (.sl (.int .u8)))] []) : evBodyK Try.prog C_spec_DrawPutName O_spec_DrawPutName L_spec_DrawPutName 31 (encAr [.one (.dat (.sl (.int .u8)))] [] x).1 (encAr [.one (.dat (.sl (.int .u8)))] [] x).2 (fun v s => some (v, s)) =
    spec_DrawPutNameK x.1 (fun r => some (out_spec_DrawPutName r)) := by kernel_rfl
theorem sem_spec_DrawPutName : ∀ x y, (fun x => spec_DrawPutName x.1) x = some y → SemCall Try.prog 31 (encAr [.one (.dat (.sl (.int .u8)))] [] x).1 (encAr [.one (.dat (.sl (.int .u8)))] [] x).2 (out_spec_DrawPutName y).1 (out_spec_DrawPutName y).2 :=
  sem_of folP okP tabP (Oracle.of_ok (Oracle.cons_ok ok_spec_l20Names (Oracle.cons_ok ok_spec_l20Open (Oracle.cons_ok ok_spec_l20Text (Oracle.cons_ok ok_spec_l20Rd_pick Oracle.nil_ok))))) lf_spec_DrawPutName fun x => (w_spec_DrawPutName x).trans (spec_DrawPutName_eq x.1 _)
noncomputable def c_spec_DrawPutName : Con := Con.shape [.one (.dat (.sl (.int .u8)))] [] (fun x => spec_DrawPutName x.1) out_spec_DrawPutName
theorem ok_spec_DrawPutName : ConOk Try.prog 31 c_spec_DrawPutName := Con.shape_ok sem_spec_DrawPutName

/-! 9 -/
def C_laws_FnPutName : Cfg := { T := tab, hint := fun _ => { mu := [4], keepR := [0, 2, 3, 4, 5, 6, 7, 8, 9, 10, 11, 12, 13, 16, 42, 44, 66, 119], res := [2], order := [(15, [(0, .forced), (1, .forced), (2, .forced), (3, .read), (4, .read), (5, .read), (6, .read), (7, .read), (8, .forced), (9, .forced), (10, .forced), (11, .forced), (12, .read), (13, .read), (14, .forced), (15, .forced), (16, .forced), (17, .forced), (18, .forced), (19, .forced), (20, .forced), (21, .forced), (22, .read), (23, .read), (24, .read), (25, .read), (26, .read), (27, .forced), (28, .forced), (29, .forced), (30, .forced), (31, .read), (32, .read), (33, .read), (34, .read), (35, .read), (36, .forced), (37, .forced), (38, .forced), (39, .forced), (40, .forced)])], keepL := [(0, [3, 4, 5, 9, 10, 11])], keepX := [(0, [3, 4, 5, 9, 10]), (1, [3, 4, 5, 9, 10, 11])] }, mode := fun _ => .borrow }
noncomputable def O_laws_FnPutName : Oracle := Oracle.of [(12, c_impl_NamesValid), (14, c_laws_alive), (18, c_impl_FindName), (26, c_laws_sameNames), (28, c_spec_PutName), (30, c_impl_PutName), (31, c_spec_DrawPutName)]
def sh_laws_FnPutName_l0 : List (Nat × S2) := [(3, .one (.dat (.sl tName))), (4, .one (.ptr 0 0 0)), (5, .one (.dat (.sl tName))), (9, .one (.dat I)), (10, .one (.dat .bool)), (11, .one (.dat I))]
def bs_laws_FnPutName_l0 : List SB := [.one tName]
noncomputable def lc_laws_FnPutName_l0 : LCon := LCon.shape sh_laws_FnPutName_l0 bs_laws_FnPutName_l0 laws_FnPutName_l0 (fun a => (.exit 0, encSt [(3, .one (.dat (.sl tName))), (4, .one (.ptr 0 0 0)), (5, .one (.dat (.sl tName))), (9, .one (.dat I)), (10, .one (.dat .bool))] [.one tName] a)) (fun b => encSt [(2, .one (.dat .bool))] [] b)
noncomputable def L_laws_FnPutName : Loops := Loops.of [(0, lc_laws_FnPutName_l0)]
theorem r_laws_FnPutName_l0 (x : FSt sh_laws_FnPutName_l0 bs_laws_FnPutName_l0) : roundK C_laws_FnPutName.T (C_laws_FnPutName.hint 9) C_laws_FnPutName.mode O_laws_FnPutName L_laws_FnPutName 0 (lp Try.prog 9 0) (encSt sh_laws_FnPutName_l0 bs_laws_FnPutName_l0 x) (fun e s => some (e, s)) =
    laws_FnPutName_l0K x.1 x.2.1 x.2.2.1 x.2.2.2.1 x.2.2.2.2.1 x.2.2.2.2.2.1 (fun y => some (Ex.normal, encSt sh_laws_FnPutName_l0 bs_laws_FnPutName_l0 y)) (fun a => some (Ex.exit 0, encSt [(3, .one (.dat (.sl tName))), (4, .one (.ptr 0 0 0)), (5, .one (.dat (.sl tName))), (9, .one (.dat I)), (10, .one (.dat .bool))] [.one tName] a)) (fun b => some (Ex.ret, encSt [(2, .one (.dat .bool))] [] b)) := by kernel_rfl
theorem lo_laws_FnPutName_l0 : LConOk C_laws_FnPutName.T (C_laws_FnPutName.hint 9) C_laws_FnPutName.mode O_laws_FnPutName L_laws_FnPutName 0 (lp Try.prog 9 0) lc_laws_FnPutName_l0 :=
  LCon.shape_ok (fun a => by simp) fun x => (r_laws_FnPutName_l0 x).trans (laws_FnPutName_l0_eq x.1 x.2.1 x.2.2.1 x.2.2.2.1 x.2.2.2.2.1 x.2.2.2.2.2.1 _ _ _)
theorem lf_laws_FnPutName : LoopsFn Try.prog C_laws_FnPutName O_laws_FnPutName 9 L_laws_FnPutName := LoopsFn.all (by kernel_rfl) (by decide) ⟨lo_laws_FnPutName_l0, trivial⟩
def out_laws_FnPutName (r : Bool) : AV × Store := out1 (.one (.dat .bool)) [] (r, ())
theorem w_laws_FnPutName (x : FAr [.one (.dat (.sl (.int .u8)))] []) : evBodyK Try.prog C_laws_FnPutName O_laws_FnPutName L_laws_FnPutName 9 (encAr [.one (.dat (.sl (.int .u8)))] [] x).1 (encAr [.one (.dat (.sl (.int .u8)))] [] x).2 (fun v s => some (v, s)) =
    laws_FnPutNameK x.1 (fun r => some (out_laws_FnPutName r)) := by kernel_rfl
theorem sem_laws_FnPutName : ∀ x y, (fun x => laws_FnPutName x.1) x = some y → SemCall Try.prog 9 (encAr [.one (.dat (.sl (.int .u8)))] [] x).1 (encAr [.one (.dat (.sl (.int .u8)))] [] x).2 (out_laws_FnPutName y).1 (out_laws_FnPutName y).2 :=
  sem_of folP okP tabP (Oracle.of_ok (Oracle.cons_ok ok_impl_NamesValid (Oracle.cons_ok ok_laws_alive (Oracle.cons_ok ok_impl_FindName (Oracle.cons_ok ok_laws_sameNames (Oracle.cons_ok ok_spec_PutName (Oracle.cons_ok ok_impl_PutName (Oracle.cons_ok ok_spec_DrawPutName Oracle.nil_ok)))))))) lf_laws_FnPutName fun x => (w_laws_FnPutName x).trans (laws_FnPutName_eq x.1 _)
noncomputable def c_laws_FnPutName : Con := Con.shape [.one (.dat (.sl (.int .u8)))] [] (fun x => laws_FnPutName x.1) out_laws_FnPutName
theorem ok_laws_FnPutName : ConOk Try.prog 9 c_laws_FnPutName := Con.shape_ok sem_laws_FnPutName

/-! 10 -/
def C_laws_FnNamesBack : Cfg := { T := tab, hint := fun _ => { mu := [4], keepR := [0, 2, 3, 4, 5, 6, 7, 8, 9, 10, 13, 40, 42], res := [2] }, mode := fun _ => .borrow }
noncomputable def O_laws_FnNamesBack : Oracle := Oracle.of [(14, c_laws_alive), (21, c_impl_DropNames), (26, c_laws_sameNames), (28, c_spec_PutName), (30, c_impl_PutName), (31, c_spec_DrawPutName)]
noncomputable def L_laws_FnNamesBack : Loops := Loops.of []
theorem lf_laws_FnNamesBack : LoopsFn Try.prog C_laws_FnNamesBack O_laws_FnNamesBack 10 L_laws_FnNamesBack := LoopsFn.nil' (by kernel_rfl)
def out_laws_FnNamesBack (r : Bool) : AV × Store := out1 (.one (.dat .bool)) [] (r, ())
theorem w_laws_FnNamesBack (x : FAr [.one (.dat (.sl (.int .u8)))] []) : evBodyK Try.prog C_laws_FnNamesBack O_laws_FnNamesBack L_laws_FnNamesBack 10 (encAr [.one (.dat (.sl (.int .u8)))] [] x).1 (encAr [.one (.dat (.sl (.int .u8)))] [] x).2 (fun v s => some (v, s)) =
    laws_FnNamesBackK x.1 (fun r => some (out_laws_FnNamesBack r)) := by kernel_rfl
theorem sem_laws_FnNamesBack : ∀ x y, (fun x => laws_FnNamesBack x.1) x = some y → SemCall Try.prog 10 (encAr [.one (.dat (.sl (.int .u8)))] [] x).1 (encAr [.one (.dat (.sl (.int .u8)))] [] x).2 (out_laws_FnNamesBack y).1 (out_laws_FnNamesBack y).2 :=
  sem_of folP okP tabP (Oracle.of_ok (Oracle.cons_ok ok_laws_alive (Oracle.cons_ok ok_impl_DropNames (Oracle.cons_ok ok_laws_sameNames (Oracle.cons_ok ok_spec_PutName (Oracle.cons_ok ok_impl_PutName (Oracle.cons_ok ok_spec_DrawPutName Oracle.nil_ok))))))) lf_laws_FnNamesBack fun x => (w_laws_FnNamesBack x).trans (laws_FnNamesBack_eq x.1 _)
noncomputable def c_laws_FnNamesBack : Con := Con.shape [.one (.dat (.sl (.int .u8)))] [] (fun x => laws_FnNamesBack x.1) out_laws_FnNamesBack
theorem ok_laws_FnNamesBack : ConOk Try.prog 10 c_laws_FnNamesBack := Con.shape_ok sem_laws_FnNamesBack

end Go.Ev
