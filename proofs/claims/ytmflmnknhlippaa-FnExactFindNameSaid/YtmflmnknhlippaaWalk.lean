/-
  The walks: the program computes what the functions of plain data compute, wherever these come to a result; printed by a program of the prover.
-/
import Derived.Test.YtmflmnknhlippaaDefs
import Derived.Test.YtmflmnknhlippaaProg
namespace Go.Ev
open Go.Proofs
set_option linter.unusedVariables false
set_option linter.unusedSimpArgs false
set_option maxRecDepth 100000
def tys : List (Nat × Ty) := [(3, I), (4, .bool), (9, .str), (23, (.sl tName)), (27, tName), (30, (.sl tName)), (44, tName), (82, (.int .u64))]
def tups : List (Nat × List Ty) := [(32, [I, .bool])]
def tab : Tab := tabOf tys tups
theorem okP : progOk Try.prog = true := by kernel_rfl
theorem tabP : TabOk Try.prog tab := tabOf_ok (by kernel_rfl)
theorem folP : Try.prog.follows .mixedOrders = true := by kernel_rfl
/-! 27 -/
def C_laws_szName : Cfg := { T := tab, hint := fun _ => { keepR := [1, 2, 4, 11], res := [4] }, mode := fun _ => .borrow }
noncomputable def O_laws_szName : Oracle := Oracle.of []
noncomputable def L_laws_szName : Loops := Loops.of []
theorem lf_laws_szName : LoopsFn Try.prog C_laws_szName O_laws_szName 27 L_laws_szName := LoopsFn.nil' (by kernel_rfl)
def out_laws_szName (r : Int) : AV × Store := out1 (.one (.dat I)) [] (r, ())
theorem w_laws_szName (x : FAr [.one (.dat tName), .one (.dat I)] []) : evBodyK Try.prog C_laws_szName O_laws_szName L_laws_szName 27 (encAr [.one (.dat tName), .one (.dat I)] [] x).1 (encAr [.one (.dat tName), .one (.dat I)] [] x).2 (fun v s => some (v, s)) =
    laws_szNameK x.1 x.2.1 (fun r => some (out_laws_szName r)) := by kernel_rfl
theorem sem_laws_szName : ∀ x y, (fun x => laws_szName x.1 x.2.1) x = some y → SemCall Try.prog 27 (encAr [.one (.dat tName), .one (.dat I)] [] x).1 (encAr [.one (.dat tName), .one (.dat I)] [] x).2 (out_laws_szName y).1 (out_laws_szName y).2 :=
  sem_of folP okP tabP (Oracle.of_ok Oracle.nil_ok) lf_laws_szName fun x => (w_laws_szName x).trans (laws_szName_eq x.1 x.2.1 _)
noncomputable def c_laws_szName : Con := Con.shape [.one (.dat tName), .one (.dat I)] [] (fun x => laws_szName x.1 x.2.1) out_laws_szName
theorem ok_laws_szName : ConOk Try.prog 27 c_laws_szName := Con.shape_ok sem_laws_szName

/-! 15 -/
def C_laws_szNameS : Cfg := { T := tab, hint := fun _ => { keepR := [0, 1, 4, 5, 11, 15, 25], res := [4], keepL := [(0, [0, 1, 5])], keepX := [(0, [1]), (1, [0, 1, 5])] }, mode := fun _ => .borrow }
noncomputable def O_laws_szNameS : Oracle := Oracle.of [(27, c_laws_szName)]
def sh_laws_szNameS_l0 : List (Nat × S2) := [(0, .one (.dat (.sl tName))), (1, .one (.dat I)), (5, .one (.dat I))]
def bs_laws_szNameS_l0 : List SB := []
noncomputable def lc_laws_szNameS_l0 : LCon := LCon.shape sh_laws_szNameS_l0 bs_laws_szNameS_l0 laws_szNameS_l0 (fun a => (.exit 0, encSt [(1, .one (.dat I))] [] a)) (fun b => encSt [(4, .one (.dat I))] [] b)
noncomputable def L_laws_szNameS : Loops := Loops.of [(0, lc_laws_szNameS_l0)]
theorem r_laws_szNameS_l0 (x : FSt sh_laws_szNameS_l0 bs_laws_szNameS_l0) : roundK C_laws_szNameS.T (C_laws_szNameS.hint 15) C_laws_szNameS.mode O_laws_szNameS L_laws_szNameS 0 (lp Try.prog 15 0) (encSt sh_laws_szNameS_l0 bs_laws_szNameS_l0 x) (fun e s => some (e, s)) =
    laws_szNameS_l0K x.1 x.2.1 x.2.2.1 (fun y => some (Ex.normal, encSt sh_laws_szNameS_l0 bs_laws_szNameS_l0 y)) (fun a => some (Ex.exit 0, encSt [(1, .one (.dat I))] [] a)) (fun b => some (Ex.ret, encSt [(4, .one (.dat I))] [] b)) := by kernel_rfl
theorem lo_laws_szNameS_l0 : LConOk C_laws_szNameS.T (C_laws_szNameS.hint 15) C_laws_szNameS.mode O_laws_szNameS L_laws_szNameS 0 (lp Try.prog 15 0) lc_laws_szNameS_l0 :=
  LCon.shape_ok (fun a => by simp) fun x => (r_laws_szNameS_l0 x).trans (laws_szNameS_l0_eq x.1 x.2.1 x.2.2.1 _ _ _)
theorem lf_laws_szNameS : LoopsFn Try.prog C_laws_szNameS O_laws_szNameS 15 L_laws_szNameS := LoopsFn.all (by kernel_rfl) (by decide) ⟨lo_laws_szNameS_l0, trivial⟩
def out_laws_szNameS (r : Int) : AV × Store := out1 (.one (.dat I)) [] (r, ())
theorem w_laws_szNameS (x : FAr [.one (.dat (.sl tName)), .one (.dat I)] []) : evBodyK Try.prog C_laws_szNameS O_laws_szNameS L_laws_szNameS 15 (encAr [.one (.dat (.sl tName)), .one (.dat I)] [] x).1 (encAr [.one (.dat (.sl tName)), .one (.dat I)] [] x).2 (fun v s => some (v, s)) =
    laws_szNameSK x.1 x.2.1 (fun r => some (out_laws_szNameS r)) := by kernel_rfl
theorem sem_laws_szNameS : ∀ x y, (fun x => laws_szNameS x.1 x.2.1) x = some y → SemCall Try.prog 15 (encAr [.one (.dat (.sl tName)), .one (.dat I)] [] x).1 (encAr [.one (.dat (.sl tName)), .one (.dat I)] [] x).2 (out_laws_szNameS y).1 (out_laws_szNameS y).2 :=
  sem_of folP okP tabP (Oracle.of_ok (Oracle.cons_ok ok_laws_szName Oracle.nil_ok)) lf_laws_szNameS fun x => (w_laws_szNameS x).trans (laws_szNameS_eq x.1 x.2.1 _)
noncomputable def c_laws_szNameS : Con := Con.shape [.one (.dat (.sl tName)), .one (.dat I)] [] (fun x => laws_szNameS x.1 x.2.1) out_laws_szNameS
theorem ok_laws_szNameS : ConOk Try.prog 15 c_laws_szNameS := Con.shape_ok sem_laws_szNameS

/-! 29 -/
def C_laws_toName : Cfg := { T := tab, hint := fun _ => { mu := [2, 3], keepR := [1, 2, 3], res := [2] }, mode := fun _ => .borrow }
noncomputable def O_laws_toName : Oracle := Oracle.of []
noncomputable def L_laws_toName : Loops := Loops.of []
theorem lf_laws_toName : LoopsFn Try.prog C_laws_toName O_laws_toName 29 L_laws_toName := LoopsFn.nil' (by kernel_rfl)
def out_laws_toName (r : DName) : AV × Store := out1 (.one (.dat tName)) [] (r, ())
theorem w_laws_toName (x : FAr [.one (.dat tName)] []) : evBodyK Try.prog C_laws_toName O_laws_toName L_laws_toName 29 (encAr [.one (.dat tName)] [] x).1 (encAr [.one (.dat tName)] [] x).2 (fun v s => some (v, s)) =
    laws_toNameK x.1 (fun r => some (out_laws_toName r)) := by kernel_rfl
theorem sem_laws_toName : ∀ x y, (fun x => laws_toName x.1) x = some y → SemCall Try.prog 29 (encAr [.one (.dat tName)] [] x).1 (encAr [.one (.dat tName)] [] x).2 (out_laws_toName y).1 (out_laws_toName y).2 :=
  sem_of folP okP tabP (Oracle.of_ok Oracle.nil_ok) lf_laws_toName fun x => (w_laws_toName x).trans (laws_toName_eq x.1 _)
noncomputable def c_laws_toName : Con := Con.shape [.one (.dat tName)] [] (fun x => laws_toName x.1) out_laws_toName
theorem ok_laws_toName : ConOk Try.prog 29 c_laws_toName := Con.shape_ok sem_laws_toName

/-! 17 -/
def C_laws_toNameS : Cfg := { T := tab, hint := fun _ => { mu := [7], keepR := [0, 2, 3, 4, 11], res := [2], keepL := [(0, [0, 3, 4])], keepX := [(0, [3]), (1, [0, 3, 4])] }, mode := fun _ => .borrow }
noncomputable def O_laws_toNameS : Oracle := Oracle.of [(29, c_laws_toName)]
def sh_laws_toNameS_l0 : List (Nat × S2) := [(0, .one (.dat (.sl tName))), (3, .one (.all 0)), (4, .one (.dat I))]
def bs_laws_toNameS_l0 : List SB := [.data tName]
noncomputable def lc_laws_toNameS_l0 : LCon := LCon.shape1 sh_laws_toNameS_l0 bs_laws_toNameS_l0 laws_toNameS_l0 (fun a => (.exit 0, encSt [(3, .one (.all 0))] [.data tName] a))
noncomputable def L_laws_toNameS : Loops := Loops.of [(0, lc_laws_toNameS_l0)]
theorem r_laws_toNameS_l0 (x : FSt sh_laws_toNameS_l0 bs_laws_toNameS_l0) : roundK C_laws_toNameS.T (C_laws_toNameS.hint 17) C_laws_toNameS.mode O_laws_toNameS L_laws_toNameS 0 (lp Try.prog 17 0) (encSt sh_laws_toNameS_l0 bs_laws_toNameS_l0 x) (fun e s => some (e, s)) =
    laws_toNameS_l0K x.1 x.2.1 x.2.2.1 (fun y => some (Ex.normal, encSt sh_laws_toNameS_l0 bs_laws_toNameS_l0 y)) (fun a => some (Ex.exit 0, encSt [(3, .one (.all 0))] [.data tName] a)) := by kernel_rfl
theorem lo_laws_toNameS_l0 : LConOk C_laws_toNameS.T (C_laws_toNameS.hint 17) C_laws_toNameS.mode O_laws_toNameS L_laws_toNameS 0 (lp Try.prog 17 0) lc_laws_toNameS_l0 :=
  LCon.shape1_ok (fun a => by simp) fun x => (r_laws_toNameS_l0 x).trans (laws_toNameS_l0_eq x.1 x.2.1 x.2.2.1 _ _)
theorem lf_laws_toNameS : LoopsFn Try.prog C_laws_toNameS O_laws_toNameS 17 L_laws_toNameS := LoopsFn.all (by kernel_rfl) (by decide) ⟨lo_laws_toNameS_l0, trivial⟩
def out_laws_toNameS (r : (List DName)) : AV × Store := out1 (.one (.all 0)) [.data tName] (r, ())
theorem w_laws_toNameS (x : FAr [.one (.dat (.sl tName))] []) : evBodyK Try.prog C_laws_toNameS O_laws_toNameS L_laws_toNameS 17 (encAr [.one (.dat (.sl tName))] [] x).1 (encAr [.one (.dat (.sl tName))] [] x).2 (fun v s => some (v, s)) =
    laws_toNameSK x.1 (fun r => some (out_laws_toNameS r)) := by kernel_rfl
theorem sem_laws_toNameS : ∀ x y, (fun x => laws_toNameS x.1) x = some y → SemCall Try.prog 17 (encAr [.one (.dat (.sl tName))] [] x).1 (encAr [.one (.dat (.sl tName))] [] x).2 (out_laws_toNameS y).1 (out_laws_toNameS y).2 :=
  sem_of folP okP tabP (Oracle.of_ok (Oracle.cons_ok ok_laws_toName Oracle.nil_ok)) lf_laws_toNameS fun x => (w_laws_toNameS x).trans (laws_toNameS_eq x.1 _)
noncomputable def c_laws_toNameS : Con := Con.shape [.one (.dat (.sl tName))] [] (fun x => laws_toNameS x.1) out_laws_toNameS
theorem ok_laws_toNameS : ConOk Try.prog 17 c_laws_toNameS := Con.shape_ok sem_laws_toNameS

/-! 36 -/
def C_spec_l1In : Cfg := { T := tab, hint := fun _ => { keepR := [0, 1, 2, 6], res := [6] }, mode := fun _ => .borrow }
noncomputable def O_spec_l1In : Oracle := Oracle.of []
noncomputable def L_spec_l1In : Loops := Loops.of []
theorem lf_spec_l1In : LoopsFn Try.prog C_spec_l1In O_spec_l1In 36 L_spec_l1In := LoopsFn.nil' (by kernel_rfl)
def out_spec_l1In (r : Bool) : AV × Store := out1 (.one (.dat .bool)) [] (r, ())
theorem w_spec_l1In (x : FAr [.one (.dat I), .one (.dat I), .one (.dat I)] []) : evBodyK Try.prog C_spec_l1In O_spec_l1In L_spec_l1In 36 (encAr [.one (.dat I), .one (.dat I), .one (.dat I)] [] x).1 (encAr [.one (.dat I), .one (.dat I), .one (.dat I)] [] x).2 (fun v s => some (v, s)) =
    spec_l1InK x.1 x.2.1 x.2.2.1 (fun r => some (out_spec_l1In r)) := by kernel_rfl
theorem sem_spec_l1In : ∀ x y, (fun x => spec_l1In x.1 x.2.1 x.2.2.1) x = some y → SemCall Try.prog 36 (encAr [.one (.dat I), .one (.dat I), .one (.dat I)] [] x).1 (encAr [.one (.dat I), .one (.dat I), .one (.dat I)] [] x).2 (out_spec_l1In y).1 (out_spec_l1In y).2 :=
  sem_of folP okP tabP (Oracle.of_ok Oracle.nil_ok) lf_spec_l1In fun x => (w_spec_l1In x).trans (spec_l1In_eq x.1 x.2.1 x.2.2.1 _)
noncomputable def c_spec_l1In : Con := Con.shape [.one (.dat I), .one (.dat I), .one (.dat I)] [] (fun x => spec_l1In x.1 x.2.1 x.2.2.1) out_spec_l1In
theorem ok_spec_l1In : ConOk Try.prog 36 c_spec_l1In := Con.shape_ok sem_spec_l1In

/-! 35 -/
def C_spec_l22Text : Cfg := { T := tab, hint := fun _ => { keepR := [0, 2, 3, 7, 19], res := [2], keepL := [(0, [0, 3])], keepX := [(0, [0]), (1, [0, 3])] }, mode := fun _ => .borrow }
noncomputable def O_spec_l22Text : Oracle := Oracle.of [(36, c_spec_l1In)]
def sh_spec_l22Text_l0 : List (Nat × S2) := [(0, .one (.dat .str)), (3, .one (.dat I))]
def bs_spec_l22Text_l0 : List SB := []
noncomputable def lc_spec_l22Text_l0 : LCon := LCon.shape sh_spec_l22Text_l0 bs_spec_l22Text_l0 spec_l22Text_l0 (fun a => (.exit 0, encSt [(0, .one (.dat .str))] [] a)) (fun b => encSt [(2, .one (.dat .bool))] [] b)
noncomputable def L_spec_l22Text : Loops := Loops.of [(0, lc_spec_l22Text_l0)]
theorem r_spec_l22Text_l0 (x : FSt sh_spec_l22Text_l0 bs_spec_l22Text_l0) : roundK C_spec_l22Text.T (C_spec_l22Text.hint 35) C_spec_l22Text.mode O_spec_l22Text L_spec_l22Text 0 (lp Try.prog 35 0) (encSt sh_spec_l22Text_l0 bs_spec_l22Text_l0 x) (fun e s => some (e, s)) =
    spec_l22Text_l0K x.1 x.2.1 (fun y => some (Ex.normal, encSt sh_spec_l22Text_l0 bs_spec_l22Text_l0 y)) (fun a => some (Ex.exit 0, encSt [(0, .one (.dat .str))] [] a)) (fun b => some (Ex.ret, encSt [(2, .one (.dat .bool))] [] b)) := by kernel_rfl
theorem lo_spec_l22Text_l0 : LConOk C_spec_l22Text.T (C_spec_l22Text.hint 35) C_spec_l22Text.mode O_spec_l22Text L_spec_l22Text 0 (lp Try.prog 35 0) lc_spec_l22Text_l0 :=
  LCon.shape_ok (fun a => by simp) fun x => (r_spec_l22Text_l0 x).trans (spec_l22Text_l0_eq x.1 x.2.1 _ _ _)
theorem lf_spec_l22Text : LoopsFn Try.prog C_spec_l22Text O_spec_l22Text 35 L_spec_l22Text := LoopsFn.all (by kernel_rfl) (by decide) ⟨lo_spec_l22Text_l0, trivial⟩
def out_spec_l22Text (r : Bool) : AV × Store := out1 (.one (.dat .bool)) [] (r, ())
theorem w_spec_l22Text (x : FAr [.one (.dat .str)] []) : evBodyK Try.prog C_spec_l22Text O_spec_l22Text L_spec_l22Text 35 (encAr [.one (.dat .str)] [] x).1 (encAr [.one (.dat .str)] [] x).2 (fun v s => some (v, s)) =
    spec_l22TextK x.1 (fun r => some (out_spec_l22Text r)) := by kernel_rfl
theorem sem_spec_l22Text : ∀ x y, (fun x => spec_l22Text x.1) x = some y → SemCall Try.prog 35 (encAr [.one (.dat .str)] [] x).1 (encAr [.one (.dat .str)] [] x).2 (out_spec_l22Text y).1 (out_spec_l22Text y).2 :=
  sem_of folP okP tabP (Oracle.of_ok (Oracle.cons_ok ok_spec_l1In Oracle.nil_ok)) lf_spec_l22Text fun x => (w_spec_l22Text x).trans (spec_l22Text_eq x.1 _)
noncomputable def c_spec_l22Text : Con := Con.shape [.one (.dat .str)] [] (fun x => spec_l22Text x.1) out_spec_l22Text
theorem ok_spec_l22Text : ConOk Try.prog 35 c_spec_l22Text := Con.shape_ok sem_spec_l22Text

/-! 13 -/
def C_spec_NamesValid : Cfg := { T := tab, hint := fun _ => { keepR := [0, 2, 3, 7, 43], res := [2], order := [(4, [(0, .read), (1, .forced), (2, .forced), (3, .forced), (4, .forced), (5, .forced), (6, .forced), (7, .forced), (8, .forced), (9, .forced), (10, .forced), (11, .read), (12, .read), (13, .read), (14, .read), (15, .read), (16, .read), (17, .read), (18, .forced), (19, .forced), (20, .forced), (21, .forced), (22, .forced), (23, .forced), (24, .forced), (25, .forced), (26, .read), (27, .forced), (28, .forced), (29, .forced), (30, .forced), (31, .forced), (32, .forced), (33, .forced)])], keepL := [(0, [0, 3])], keepX := [(0, [0]), (1, [0, 3])] }, mode := fun _ => .borrow }
noncomputable def O_spec_NamesValid : Oracle := Oracle.of [(35, c_spec_l22Text), (36, c_spec_l1In)]
def sh_spec_NamesValid_l0 : List (Nat × S2) := [(0, .one (.dat (.sl tName))), (3, .one (.dat I))]
def bs_spec_NamesValid_l0 : List SB := []
noncomputable def lc_spec_NamesValid_l0 : LCon := LCon.shape sh_spec_NamesValid_l0 bs_spec_NamesValid_l0 spec_NamesValid_l0 (fun a => (.exit 0, encSt [(0, .one (.dat (.sl tName)))] [] a)) (fun b => encSt [(2, .one (.dat .bool))] [] b)
noncomputable def L_spec_NamesValid : Loops := Loops.of [(0, lc_spec_NamesValid_l0)]
theorem r_spec_NamesValid_l0 (x : FSt sh_spec_NamesValid_l0 bs_spec_NamesValid_l0) : roundK C_spec_NamesValid.T (C_spec_NamesValid.hint 13) C_spec_NamesValid.mode O_spec_NamesValid L_spec_NamesValid 0 (lp Try.prog 13 0) (encSt sh_spec_NamesValid_l0 bs_spec_NamesValid_l0 x) (fun e s => some (e, s)) =
    spec_NamesValid_l0K x.1 x.2.1 (fun y => some (Ex.normal, encSt sh_spec_NamesValid_l0 bs_spec_NamesValid_l0 y)) (fun a => some (Ex.exit 0, encSt [(0, .one (.dat (.sl tName)))] [] a)) (fun b => some (Ex.ret, encSt [(2, .one (.dat .bool))] [] b)) := by kernel_rfl
theorem lo_spec_NamesValid_l0 : LConOk C_spec_NamesValid.T (C_spec_NamesValid.hint 13) C_spec_NamesValid.mode O_spec_NamesValid L_spec_NamesValid 0 (lp Try.prog 13 0) lc_spec_NamesValid_l0 :=
  LCon.shape_ok (fun a => by simp) fun x => (r_spec_NamesValid_l0 x).trans (spec_NamesValid_l0_eq x.1 x.2.1 _ _ _)
theorem lf_spec_NamesValid : LoopsFn Try.prog C_spec_NamesValid O_spec_NamesValid 13 L_spec_NamesValid := LoopsFn.all (by kernel_rfl) (by decide) ⟨lo_spec_NamesValid_l0, trivial⟩
def out_spec_NamesValid (r : Bool) : AV × Store := out1 (.one (.dat .bool)) [] (r, ())
theorem w_spec_NamesValid (x : FAr [.one (.dat (.sl tName))] []) : evBodyK Try.prog C_spec_NamesValid O_spec_NamesValid L_spec_NamesValid 13 (encAr [.one (.dat (.sl tName))] [] x).1 (encAr [.one (.dat (.sl tName))] [] x).2 (fun v s => some (v, s)) =
    spec_NamesValidK x.1 (fun r => some (out_spec_NamesValid r)) := by kernel_rfl
theorem sem_spec_NamesValid : ∀ x y, (fun x => spec_NamesValid x.1) x = some y → SemCall Try.prog 13 (encAr [.one (.dat (.sl tName))] [] x).1 (encAr [.one (.dat (.sl tName))] [] x).2 (out_spec_NamesValid y).1 (out_spec_NamesValid y).2 :=
  sem_of folP okP tabP (Oracle.of_ok (Oracle.cons_ok ok_spec_l22Text (Oracle.cons_ok ok_spec_l1In Oracle.nil_ok))) lf_spec_NamesValid fun x => (w_spec_NamesValid x).trans (spec_NamesValid_eq x.1 _)
noncomputable def c_spec_NamesValid : Con := Con.shape [.one (.dat (.sl tName))] [] (fun x => spec_NamesValid x.1) out_spec_NamesValid
theorem ok_spec_NamesValid : ConOk Try.prog 13 c_spec_NamesValid := Con.shape_ok sem_spec_NamesValid

/-! 16 -/
def C_spec_FindName : Cfg := { T := tab, hint := fun _ => { keepR := [0, 1, 4, 5, 6, 14, 23], res := [4, 5], keepL := [(0, [0, 1, 6])], keepX := [(0, []), (1, [0, 1, 6])] }, mode := fun _ => .borrow }
noncomputable def O_spec_FindName : Oracle := Oracle.of [(13, c_spec_NamesValid)]
def sh_spec_FindName_l0 : List (Nat × S2) := [(0, .one (.dat (.sl tName))), (1, .one (.dat .str)), (6, .one (.dat I))]
def bs_spec_FindName_l0 : List SB := []
noncomputable def lc_spec_FindName_l0 : LCon := LCon.shape sh_spec_FindName_l0 bs_spec_FindName_l0 spec_FindName_l0 (fun a => (.exit 0, encSt [] [] a)) (fun b => encSt [(4, .one (.dat I)), (5, .one (.dat .bool))] [] b)
noncomputable def L_spec_FindName : Loops := Loops.of [(0, lc_spec_FindName_l0)]
theorem r_spec_FindName_l0 (x : FSt sh_spec_FindName_l0 bs_spec_FindName_l0) : roundK C_spec_FindName.T (C_spec_FindName.hint 16) C_spec_FindName.mode O_spec_FindName L_spec_FindName 0 (lp Try.prog 16 0) (encSt sh_spec_FindName_l0 bs_spec_FindName_l0 x) (fun e s => some (e, s)) =
    spec_FindName_l0K x.1 x.2.1 x.2.2.1 (fun y => some (Ex.normal, encSt sh_spec_FindName_l0 bs_spec_FindName_l0 y)) (fun a => some (Ex.exit 0, encSt [] [] a)) (fun b => some (Ex.ret, encSt [(4, .one (.dat I)), (5, .one (.dat .bool))] [] b)) := by kernel_rfl
theorem lo_spec_FindName_l0 : LConOk C_spec_FindName.T (C_spec_FindName.hint 16) C_spec_FindName.mode O_spec_FindName L_spec_FindName 0 (lp Try.prog 16 0) lc_spec_FindName_l0 :=
  LCon.shape_ok (fun a => by simp) fun x => (r_spec_FindName_l0 x).trans (spec_FindName_l0_eq x.1 x.2.1 x.2.2.1 _ _ _)
theorem lf_spec_FindName : LoopsFn Try.prog C_spec_FindName O_spec_FindName 16 L_spec_FindName := LoopsFn.all (by kernel_rfl) (by decide) ⟨lo_spec_FindName_l0, trivial⟩
def out_spec_FindName (r : Int × Bool) : AV × Store := outT [.one (.dat I), .one (.dat .bool)] [] (r.1, r.2, ())
theorem w_spec_FindName (x : FAr [.one (.dat (.sl tName)), .one (.dat .str)] []) : evBodyK Try.prog C_spec_FindName O_spec_FindName L_spec_FindName 16 (encAr [.one (.dat (.sl tName)), .one (.dat .str)] [] x).1 (encAr [.one (.dat (.sl tName)), .one (.dat .str)] [] x).2 (fun v s => some (v, s)) =
    spec_FindNameK x.1 x.2.1 (fun r => some (out_spec_FindName r)) := by kernel_rfl
theorem sem_spec_FindName : ∀ x y, (fun x => spec_FindName x.1 x.2.1) x = some y → SemCall Try.prog 16 (encAr [.one (.dat (.sl tName)), .one (.dat .str)] [] x).1 (encAr [.one (.dat (.sl tName)), .one (.dat .str)] [] x).2 (out_spec_FindName y).1 (out_spec_FindName y).2 :=
  sem_of folP okP tabP (Oracle.of_ok (Oracle.cons_ok ok_spec_NamesValid Oracle.nil_ok)) lf_spec_FindName fun x => (w_spec_FindName x).trans (spec_FindName_eq x.1 x.2.1 _)
noncomputable def c_spec_FindName : Con := Con.shape [.one (.dat (.sl tName)), .one (.dat .str)] [] (fun x => spec_FindName x.1 x.2.1) out_spec_FindName
theorem ok_spec_FindName : ConOk Try.prog 16 c_spec_FindName := Con.shape_ok sem_spec_FindName

/-! 50 -/
def C_impl_in : Cfg := { T := tab, hint := fun _ => { keepR := [0, 1, 2, 6], res := [6] }, mode := fun _ => .borrow }
noncomputable def O_impl_in : Oracle := Oracle.of []
noncomputable def L_impl_in : Loops := Loops.of []
theorem lf_impl_in : LoopsFn Try.prog C_impl_in O_impl_in 50 L_impl_in := LoopsFn.nil' (by kernel_rfl)
def out_impl_in (r : Bool) : AV × Store := out1 (.one (.dat .bool)) [] (r, ())
theorem w_impl_in (x : FAr [.one (.dat I), .one (.dat I), .one (.dat I)] []) : evBodyK Try.prog C_impl_in O_impl_in L_impl_in 50 (encAr [.one (.dat I), .one (.dat I), .one (.dat I)] [] x).1 (encAr [.one (.dat I), .one (.dat I), .one (.dat I)] [] x).2 (fun v s => some (v, s)) =
    impl_inK x.1 x.2.1 x.2.2.1 (fun r => some (out_impl_in r)) := by kernel_rfl
theorem sem_impl_in : ∀ x y, (fun x => impl_in x.1 x.2.1 x.2.2.1) x = some y → SemCall Try.prog 50 (encAr [.one (.dat I), .one (.dat I), .one (.dat I)] [] x).1 (encAr [.one (.dat I), .one (.dat I), .one (.dat I)] [] x).2 (out_impl_in y).1 (out_impl_in y).2 :=
  sem_of folP okP tabP (Oracle.of_ok Oracle.nil_ok) lf_impl_in fun x => (w_impl_in x).trans (impl_in_eq x.1 x.2.1 x.2.2.1 _)
noncomputable def c_impl_in : Con := Con.shape [.one (.dat I), .one (.dat I), .one (.dat I)] [] (fun x => impl_in x.1 x.2.1 x.2.2.1) out_impl_in
theorem ok_impl_in : ConOk Try.prog 50 c_impl_in := Con.shape_ok sem_impl_in

/-! 51 -/
def C_impl_isThread : Cfg := { T := tab, hint := fun _ => { keepR := [0, 2], res := [2] }, mode := fun _ => .borrow }
noncomputable def O_impl_isThread : Oracle := Oracle.of [(50, c_impl_in)]
noncomputable def L_impl_isThread : Loops := Loops.of []
theorem lf_impl_isThread : LoopsFn Try.prog C_impl_isThread O_impl_isThread 51 L_impl_isThread := LoopsFn.nil' (by kernel_rfl)
def out_impl_isThread (r : Bool) : AV × Store := out1 (.one (.dat .bool)) [] (r, ())
theorem w_impl_isThread (x : FAr [.one (.dat I)] []) : evBodyK Try.prog C_impl_isThread O_impl_isThread L_impl_isThread 51 (encAr [.one (.dat I)] [] x).1 (encAr [.one (.dat I)] [] x).2 (fun v s => some (v, s)) =
    impl_isThreadK x.1 (fun r => some (out_impl_isThread r)) := by kernel_rfl
theorem sem_impl_isThread : ∀ x y, (fun x => impl_isThread x.1) x = some y → SemCall Try.prog 51 (encAr [.one (.dat I)] [] x).1 (encAr [.one (.dat I)] [] x).2 (out_impl_isThread y).1 (out_impl_isThread y).2 :=
  sem_of folP okP tabP (Oracle.of_ok (Oracle.cons_ok ok_impl_in Oracle.nil_ok)) lf_impl_isThread fun x => (w_impl_isThread x).trans (impl_isThread_eq x.1 _)
noncomputable def c_impl_isThread : Con := Con.shape [.one (.dat I)] [] (fun x => impl_isThread x.1) out_impl_isThread
theorem ok_impl_isThread : ConOk Try.prog 51 c_impl_isThread := Con.shape_ok sem_impl_isThread

/-! 34 -/
def C_impl_Name_may : Cfg := { T := tab, hint := fun _ => { keepR := [1, 2, 3, 6, 7, 8, 21], res := [2], keepL := [(0, [1, 6, 7])], keepX := [(0, [1]), (1, [1, 6, 7])] }, mode := fun _ => .borrow }
noncomputable def O_impl_Name_may : Oracle := Oracle.of [(50, c_impl_in), (51, c_impl_isThread)]
def sh_impl_Name_may_l0 : List (Nat × S2) := [(1, .one (.cdat tName 0)), (6, .one (.dat I)), (7, .one (.dat I))]
def bs_impl_Name_may_l0 : List SB := []
noncomputable def lc_impl_Name_may_l0 : LCon := LCon.shape sh_impl_Name_may_l0 bs_impl_Name_may_l0 impl_Name_may_l0 (fun a => (.exit 0, encSt [(1, .one (.cdat tName 0))] [] a)) (fun b => encSt [(2, .one (.dat .bool))] [] b)
noncomputable def L_impl_Name_may : Loops := Loops.of [(0, lc_impl_Name_may_l0)]
theorem r_impl_Name_may_l0 (x : FSt sh_impl_Name_may_l0 bs_impl_Name_may_l0) : roundK C_impl_Name_may.T (C_impl_Name_may.hint 34) C_impl_Name_may.mode O_impl_Name_may L_impl_Name_may 0 (lp Try.prog 34 0) (encSt sh_impl_Name_may_l0 bs_impl_Name_may_l0 x) (fun e s => some (e, s)) =
    impl_Name_may_l0K x.1 x.2.1 x.2.2.1 (fun y => some (Ex.normal, encSt sh_impl_Name_may_l0 bs_impl_Name_may_l0 y)) (fun a => some (Ex.exit 0, encSt [(1, .one (.cdat tName 0))] [] a)) (fun b => some (Ex.ret, encSt [(2, .one (.dat .bool))] [] b)) := by kernel_rfl
theorem lo_impl_Name_may_l0 : LConOk C_impl_Name_may.T (C_impl_Name_may.hint 34) C_impl_Name_may.mode O_impl_Name_may L_impl_Name_may 0 (lp Try.prog 34 0) lc_impl_Name_may_l0 :=
  LCon.shape_ok (fun a => by simp) fun x => (r_impl_Name_may_l0 x).trans (impl_Name_may_l0_eq x.1 x.2.1 x.2.2.1 _ _ _)
theorem lf_impl_Name_may : LoopsFn Try.prog C_impl_Name_may O_impl_Name_may 34 L_impl_Name_may := LoopsFn.all (by kernel_rfl) (by decide) ⟨lo_impl_Name_may_l0, trivial⟩
def out_impl_Name_may (r : Bool) : AV × Store := out1 (.one (.dat .bool)) [] (r, ())
theorem w_impl_Name_may (x : FAr [.one (.dat tName)] []) : evBodyK Try.prog C_impl_Name_may O_impl_Name_may L_impl_Name_may 34 (encAr [.one (.dat tName)] [] x).1 (encAr [.one (.dat tName)] [] x).2 (fun v s => some (v, s)) =
    impl_Name_mayK x.1 (fun r => some (out_impl_Name_may r)) := by kernel_rfl
theorem sem_impl_Name_may : ∀ x y, (fun x => impl_Name_may x.1) x = some y → SemCall Try.prog 34 (encAr [.one (.dat tName)] [] x).1 (encAr [.one (.dat tName)] [] x).2 (out_impl_Name_may y).1 (out_impl_Name_may y).2 :=
  sem_of folP okP tabP (Oracle.of_ok (Oracle.cons_ok ok_impl_in (Oracle.cons_ok ok_impl_isThread Oracle.nil_ok))) lf_impl_Name_may fun x => (w_impl_Name_may x).trans (impl_Name_may_eq x.1 _)
noncomputable def c_impl_Name_may : Con := Con.shape [.one (.dat tName)] [] (fun x => impl_Name_may x.1) out_impl_Name_may
theorem ok_impl_Name_may : ConOk Try.prog 34 c_impl_Name_may := Con.shape_ok sem_impl_Name_may

/-! 12 -/
def C_impl_NamesValid : Cfg := { T := tab, hint := fun _ => { mu := [4], keepR := [0, 2, 3, 4, 5, 6, 7, 8, 29], res := [2], order := [(4, [(0, .forced), (1, .forced), (2, .forced), (3, .forced), (4, .forced), (5, .forced), (6, .forced), (7, .read), (8, .read), (9, .read), (10, .forced), (11, .forced), (12, .forced), (13, .forced), (14, .forced), (15, .forced), (16, .forced), (17, .forced)])], keepL := [(0, [0, 5, 6, 7])], keepX := [(0, [0]), (1, [0, 5, 6, 7])] }, mode := fun _ => .borrow }
noncomputable def O_impl_NamesValid : Oracle := Oracle.of [(34, c_impl_Name_may)]
def sh_impl_NamesValid_l0 : List (Nat × S2) := [(0, .one (.dat (.sl tName))), (5, .one (.dat (.sl tName))), (6, .one (.dat I)), (7, .one (.dat I))]
def bs_impl_NamesValid_l0 : List SB := []
noncomputable def lc_impl_NamesValid_l0 : LCon := LCon.shape sh_impl_NamesValid_l0 bs_impl_NamesValid_l0 impl_NamesValid_l0 (fun a => (.exit 0, encSt [(0, .one (.dat (.sl tName)))] [] a)) (fun b => encSt [(2, .one (.dat .bool))] [] b)
noncomputable def L_impl_NamesValid : Loops := Loops.of [(0, lc_impl_NamesValid_l0)]
theorem r_impl_NamesValid_l0 (x : FSt sh_impl_NamesValid_l0 bs_impl_NamesValid_l0) : roundK C_impl_NamesValid.T (C_impl_NamesValid.hint 12) C_impl_NamesValid.mode O_impl_NamesValid L_impl_NamesValid 0 (lp Try.prog 12 0) (encSt sh_impl_NamesValid_l0 bs_impl_NamesValid_l0 x) (fun e s => some (e, s)) =
    impl_NamesValid_l0K x.1 x.2.1 x.2.2.1 x.2.2.2.1 (fun y => some (Ex.normal, encSt sh_impl_NamesValid_l0 bs_impl_NamesValid_l0 y)) (fun a => some (Ex.exit 0, encSt [(0, .one (.dat (.sl tName)))] [] a)) (fun b => some (Ex.ret, encSt [(2, .one (.dat .bool))] [] b)) := by kernel_rfl
theorem lo_impl_NamesValid_l0 : LConOk C_impl_NamesValid.T (C_impl_NamesValid.hint 12) C_impl_NamesValid.mode O_impl_NamesValid L_impl_NamesValid 0 (lp Try.prog 12 0) lc_impl_NamesValid_l0 :=
  LCon.shape_ok (fun a => by simp) fun x => (r_impl_NamesValid_l0 x).trans (impl_NamesValid_l0_eq x.1 x.2.1 x.2.2.1 x.2.2.2.1 _ _ _)
theorem lf_impl_NamesValid : LoopsFn Try.prog C_impl_NamesValid O_impl_NamesValid 12 L_impl_NamesValid := LoopsFn.all (by kernel_rfl) (by decide) ⟨lo_impl_NamesValid_l0, trivial⟩
def out_impl_NamesValid (r : Bool) : AV × Store := out1 (.one (.dat .bool)) [] (r, ())
theorem w_impl_NamesValid (x : FAr [.one (.dat (.sl tName))] []) : evBodyK Try.prog C_impl_NamesValid O_impl_NamesValid L_impl_NamesValid 12 (encAr [.one (.dat (.sl tName))] [] x).1 (encAr [.one (.dat (.sl tName))] [] x).2 (fun v s => some (v, s)) =
    impl_NamesValidK x.1 (fun r => some (out_impl_NamesValid r)) := by kernel_rfl
theorem sem_impl_NamesValid : ∀ x y, (fun x => impl_NamesValid x.1) x = some y → SemCall Try.prog 12 (encAr [.one (.dat (.sl tName))] [] x).1 (encAr [.one (.dat (.sl tName))] [] x).2 (out_impl_NamesValid y).1 (out_impl_NamesValid y).2 :=
  sem_of folP okP tabP (Oracle.of_ok (Oracle.cons_ok ok_impl_Name_may Oracle.nil_ok)) lf_impl_NamesValid fun x => (w_impl_NamesValid x).trans (impl_NamesValid_eq x.1 _)
noncomputable def c_impl_NamesValid : Con := Con.shape [.one (.dat (.sl tName))] [] (fun x => impl_NamesValid x.1) out_impl_NamesValid
theorem ok_impl_NamesValid : ConOk Try.prog 12 c_impl_NamesValid := Con.shape_ok sem_impl_NamesValid

/-! 62 -/
def C_cmp_isNaN_string : Cfg := { T := tab, hint := fun _ => { keepR := [0, 2], res := [2] }, mode := fun _ => .borrow }
noncomputable def O_cmp_isNaN_string : Oracle := Oracle.of []
noncomputable def L_cmp_isNaN_string : Loops := Loops.of []
theorem lf_cmp_isNaN_string : LoopsFn Try.prog C_cmp_isNaN_string O_cmp_isNaN_string 62 L_cmp_isNaN_string := LoopsFn.nil' (by kernel_rfl)
def out_cmp_isNaN_string (r : Bool) : AV × Store := out1 (.one (.dat .bool)) [] (r, ())
theorem w_cmp_isNaN_string (x : FAr [.one (.dat .str)] []) : evBodyK Try.prog C_cmp_isNaN_string O_cmp_isNaN_string L_cmp_isNaN_string 62 (encAr [.one (.dat .str)] [] x).1 (encAr [.one (.dat .str)] [] x).2 (fun v s => some (v, s)) =
    cmp_isNaN_stringK x.1 (fun r => some (out_cmp_isNaN_string r)) := by kernel_rfl
theorem sem_cmp_isNaN_string : ∀ x y, (fun x => cmp_isNaN_string x.1) x = some y → SemCall Try.prog 62 (encAr [.one (.dat .str)] [] x).1 (encAr [.one (.dat .str)] [] x).2 (out_cmp_isNaN_string y).1 (out_cmp_isNaN_string y).2 :=
  sem_of folP okP tabP (Oracle.of_ok Oracle.nil_ok) lf_cmp_isNaN_string fun x => (w_cmp_isNaN_string x).trans (cmp_isNaN_string_eq x.1 _)
noncomputable def c_cmp_isNaN_string : Con := Con.shape [.one (.dat .str)] [] (fun x => cmp_isNaN_string x.1) out_cmp_isNaN_string
theorem ok_cmp_isNaN_string : ConOk Try.prog 62 c_cmp_isNaN_string := Con.shape_ok sem_cmp_isNaN_string

/-! 57 -/
def C_cmp_Compare_string : Cfg := { T := tab, hint := fun _ => { keepR := [0, 1, 4, 5, 6, 11, 12, 13, 16, 19], res := [4] }, mode := fun _ => .borrow }
noncomputable def O_cmp_Compare_string : Oracle := Oracle.of [(62, c_cmp_isNaN_string)]
noncomputable def L_cmp_Compare_string : Loops := Loops.of []
theorem lf_cmp_Compare_string : LoopsFn Try.prog C_cmp_Compare_string O_cmp_Compare_string 57 L_cmp_Compare_string := LoopsFn.nil' (by kernel_rfl)
def out_cmp_Compare_string (r : Int) : AV × Store := out1 (.one (.dat I)) [] (r, ())
theorem w_cmp_Compare_string (x : FAr [.one (.dat .str), .one (.dat .str)] []) : evBodyK Try.prog C_cmp_Compare_string O_cmp_Compare_string L_cmp_Compare_string 57 (encAr [.one (.dat .str), .one (.dat .str)] [] x).1 (encAr [.one (.dat .str), .one (.dat .str)] [] x).2 (fun v s => some (v, s)) =
    cmp_Compare_stringK x.1 x.2.1 (fun r => some (out_cmp_Compare_string r)) := by kernel_rfl
theorem sem_cmp_Compare_string : ∀ x y, (fun x => cmp_Compare_string x.1 x.2.1) x = some y → SemCall Try.prog 57 (encAr [.one (.dat .str), .one (.dat .str)] [] x).1 (encAr [.one (.dat .str), .one (.dat .str)] [] x).2 (out_cmp_Compare_string y).1 (out_cmp_Compare_string y).2 :=
  sem_of folP okP tabP (Oracle.of_ok (Oracle.cons_ok ok_cmp_isNaN_string Oracle.nil_ok)) lf_cmp_Compare_string fun x => (w_cmp_Compare_string x).trans (cmp_Compare_string_eq x.1 x.2.1 _)
noncomputable def c_cmp_Compare_string : Con := Con.shape [.one (.dat .str), .one (.dat .str)] [] (fun x => cmp_Compare_string x.1 x.2.1) out_cmp_Compare_string
theorem ok_cmp_Compare_string : ConOk Try.prog 57 c_cmp_Compare_string := Con.shape_ok sem_cmp_Compare_string

/-! 56 -/
def C_impl_find_c1 : Cfg := { T := tab, hint := fun _ => { keepR := [1, 2, 4], res := [4] }, mode := fun _ => .borrow }
noncomputable def O_impl_find_c1 : Oracle := Oracle.of [(57, c_cmp_Compare_string)]
noncomputable def L_impl_find_c1 : Loops := Loops.of []
theorem lf_impl_find_c1 : LoopsFn Try.prog C_impl_find_c1 O_impl_find_c1 56 L_impl_find_c1 := LoopsFn.nil' (by kernel_rfl)
def out_impl_find_c1 (r : Int) : AV × Store := out1 (.one (.dat I)) [] (r, ())
theorem w_impl_find_c1 (x : FAr [.one (.dat tName), .one (.dat .str)] []) : evBodyK Try.prog C_impl_find_c1 O_impl_find_c1 L_impl_find_c1 56 (encAr [.one (.dat tName), .one (.dat .str)] [] x).1 (encAr [.one (.dat tName), .one (.dat .str)] [] x).2 (fun v s => some (v, s)) =
    impl_find_c1K x.1 x.2.1 (fun r => some (out_impl_find_c1 r)) := by kernel_rfl
theorem sem_impl_find_c1 : ∀ x y, (fun x => impl_find_c1 x.1 x.2.1) x = some y → SemCall Try.prog 56 (encAr [.one (.dat tName), .one (.dat .str)] [] x).1 (encAr [.one (.dat tName), .one (.dat .str)] [] x).2 (out_impl_find_c1 y).1 (out_impl_find_c1 y).2 :=
  sem_of folP okP tabP (Oracle.of_ok (Oracle.cons_ok ok_cmp_Compare_string Oracle.nil_ok)) lf_impl_find_c1 fun x => (w_impl_find_c1 x).trans (impl_find_c1_eq x.1 x.2.1 _)
noncomputable def c_impl_find_c1 : Con := Con.shape [.one (.dat tName), .one (.dat .str)] [] (fun x => impl_find_c1 x.1 x.2.1) out_impl_find_c1
theorem ok_impl_find_c1 : ConOk Try.prog 56 c_impl_find_c1 := Con.shape_ok sem_impl_find_c1

/-! 55 -/
def C_slices_BinarySearchFunc_string : Cfg := { T := tab, hint := fun _ => { keepR := [0, 1, 2, 6, 7, 8, 9, 10, 11, 17, 31], res := [6, 7], keepL := [(0, [0, 1, 2, 8, 9, 10])], keepX := [(0, [0, 1, 2, 8, 9]), (1, [0, 1, 2, 8, 9, 10])] }, mode := fun _ => .borrow }
noncomputable def O_slices_BinarySearchFunc_string : Oracle := Oracle.of [(56, c_impl_find_c1)]
def sh_slices_BinarySearchFunc_string_l0 : List (Nat × S2) := [(0, .one (.dat (.sl tName))), (1, .one (.dat .str)), (2, .fn 56 []), (8, .one (.dat I)), (9, .one (.dat I)), (10, .one (.dat I))]
def bs_slices_BinarySearchFunc_string_l0 : List SB := []
noncomputable def lc_slices_BinarySearchFunc_string_l0 : LCon := LCon.shape1 sh_slices_BinarySearchFunc_string_l0 bs_slices_BinarySearchFunc_string_l0 slices_BinarySearchFunc_string_l0 (fun a => (.exit 0, encSt [(0, .one (.dat (.sl tName))), (1, .one (.dat .str)), (2, .fn 56 []), (8, .one (.dat I)), (9, .one (.dat I))] [] a))
noncomputable def L_slices_BinarySearchFunc_string : Loops := Loops.of [(0, lc_slices_BinarySearchFunc_string_l0)]
theorem r_slices_BinarySearchFunc_string_l0 (x : FSt sh_slices_BinarySearchFunc_string_l0 bs_slices_BinarySearchFunc_string_l0) : roundK C_slices_BinarySearchFunc_string.T (C_slices_BinarySearchFunc_string.hint 55) C_slices_BinarySearchFunc_string.mode O_slices_BinarySearchFunc_string L_slices_BinarySearchFunc_string 0 (lp Try.prog 55 0) (encSt sh_slices_BinarySearchFunc_string_l0 bs_slices_BinarySearchFunc_string_l0 x) (fun e s => some (e, s)) =
    slices_BinarySearchFunc_string_l0K x.1 x.2.1 x.2.2.1 x.2.2.2.1 x.2.2.2.2.1 (fun y => some (Ex.normal, encSt sh_slices_BinarySearchFunc_string_l0 bs_slices_BinarySearchFunc_string_l0 y)) (fun a => some (Ex.exit 0, encSt [(0, .one (.dat (.sl tName))), (1, .one (.dat .str)), (2, .fn 56 []), (8, .one (.dat I)), (9, .one (.dat I))] [] a)) := by kernel_rfl
theorem lo_slices_BinarySearchFunc_string_l0 : LConOk C_slices_BinarySearchFunc_string.T (C_slices_BinarySearchFunc_string.hint 55) C_slices_BinarySearchFunc_string.mode O_slices_BinarySearchFunc_string L_slices_BinarySearchFunc_string 0 (lp Try.prog 55 0) lc_slices_BinarySearchFunc_string_l0 :=
  LCon.shape1_ok (fun a => by simp) fun x => (r_slices_BinarySearchFunc_string_l0 x).trans (slices_BinarySearchFunc_string_l0_eq x.1 x.2.1 x.2.2.1 x.2.2.2.1 x.2.2.2.2.1 _ _)
theorem lf_slices_BinarySearchFunc_string : LoopsFn Try.prog C_slices_BinarySearchFunc_string O_slices_BinarySearchFunc_string 55 L_slices_BinarySearchFunc_string := LoopsFn.all (by kernel_rfl) (by decide) ⟨lo_slices_BinarySearchFunc_string_l0, trivial⟩
def out_slices_BinarySearchFunc_string (r : Int × Bool) : AV × Store := outT [.one (.dat I), .one (.dat .bool)] [] (r.1, r.2, ())
theorem w_slices_BinarySearchFunc_string (x : FAr [.one (.dat (.sl tName)), .one (.dat .str), .fn 56 []] []) : evBodyK Try.prog C_slices_BinarySearchFunc_string O_slices_BinarySearchFunc_string L_slices_BinarySearchFunc_string 55 (encAr [.one (.dat (.sl tName)), .one (.dat .str), .fn 56 []] [] x).1 (encAr [.one (.dat (.sl tName)), .one (.dat .str), .fn 56 []] [] x).2 (fun v s => some (v, s)) =
    slices_BinarySearchFunc_stringK x.1 x.2.1 (fun r => some (out_slices_BinarySearchFunc_string r)) := by kernel_rfl
theorem sem_slices_BinarySearchFunc_string : ∀ x y, (fun x => slices_BinarySearchFunc_string x.1 x.2.1) x = some y → SemCall Try.prog 55 (encAr [.one (.dat (.sl tName)), .one (.dat .str), .fn 56 []] [] x).1 (encAr [.one (.dat (.sl tName)), .one (.dat .str), .fn 56 []] [] x).2 (out_slices_BinarySearchFunc_string y).1 (out_slices_BinarySearchFunc_string y).2 :=
  sem_of folP okP tabP (Oracle.of_ok (Oracle.cons_ok ok_impl_find_c1 Oracle.nil_ok)) lf_slices_BinarySearchFunc_string fun x => (w_slices_BinarySearchFunc_string x).trans (slices_BinarySearchFunc_string_eq x.1 x.2.1 _)
noncomputable def c_slices_BinarySearchFunc_string : Con := Con.shape [.one (.dat (.sl tName)), .one (.dat .str), .fn 56 []] [] (fun x => slices_BinarySearchFunc_string x.1 x.2.1) out_slices_BinarySearchFunc_string
theorem ok_slices_BinarySearchFunc_string : ConOk Try.prog 55 c_slices_BinarySearchFunc_string := Con.shape_ok sem_slices_BinarySearchFunc_string

/-! 38 -/
def C_impl_find : Cfg := { T := tab, hint := fun _ => { keepR := [0, 1, 4, 5], res := [4, 5] }, mode := fun _ => .borrow }
noncomputable def O_impl_find : Oracle := Oracle.of [(55, c_slices_BinarySearchFunc_string)]
noncomputable def L_impl_find : Loops := Loops.of []
theorem lf_impl_find : LoopsFn Try.prog C_impl_find O_impl_find 38 L_impl_find := LoopsFn.nil' (by kernel_rfl)
def out_impl_find (r : Int × Bool) : AV × Store := outT [.one (.dat I), .one (.dat .bool)] [] (r.1, r.2, ())
theorem w_impl_find (x : FAr [.one (.dat (.sl tName)), .one (.dat .str)] []) : evBodyK Try.prog C_impl_find O_impl_find L_impl_find 38 (encAr [.one (.dat (.sl tName)), .one (.dat .str)] [] x).1 (encAr [.one (.dat (.sl tName)), .one (.dat .str)] [] x).2 (fun v s => some (v, s)) =
    impl_findK x.1 x.2.1 (fun r => some (out_impl_find r)) := by kernel_rfl
theorem sem_impl_find : ∀ x y, (fun x => impl_find x.1 x.2.1) x = some y → SemCall Try.prog 38 (encAr [.one (.dat (.sl tName)), .one (.dat .str)] [] x).1 (encAr [.one (.dat (.sl tName)), .one (.dat .str)] [] x).2 (out_impl_find y).1 (out_impl_find y).2 :=
  sem_of folP okP tabP (Oracle.of_ok (Oracle.cons_ok ok_slices_BinarySearchFunc_string Oracle.nil_ok)) lf_impl_find fun x => (w_impl_find x).trans (impl_find_eq x.1 x.2.1 _)
noncomputable def c_impl_find : Con := Con.shape [.one (.dat (.sl tName)), .one (.dat .str)] [] (fun x => impl_find x.1 x.2.1) out_impl_find
theorem ok_impl_find : ConOk Try.prog 38 c_impl_find := Con.shape_ok sem_impl_find

/-! 18 -/
def C_impl_FindName : Cfg := { T := tab, hint := fun _ => { keepR := [0, 1, 4, 5, 6, 7, 10, 18], res := [4, 5] }, mode := fun _ => .borrow }
noncomputable def O_impl_FindName : Oracle := Oracle.of [(12, c_impl_NamesValid), (38, c_impl_find)]
noncomputable def L_impl_FindName : Loops := Loops.of []
theorem lf_impl_FindName : LoopsFn Try.prog C_impl_FindName O_impl_FindName 18 L_impl_FindName := LoopsFn.nil' (by kernel_rfl)
def out_impl_FindName (r : Int × Bool) : AV × Store := outT [.one (.dat I), .one (.dat .bool)] [] (r.1, r.2, ())
theorem w_impl_FindName (x : FAr [.one (.dat (.sl tName)), .one (.dat .str)] []) : evBodyK Try.prog C_impl_FindName O_impl_FindName L_impl_FindName 18 (encAr [.one (.dat (.sl tName)), .one (.dat .str)] [] x).1 (encAr [.one (.dat (.sl tName)), .one (.dat .str)] [] x).2 (fun v s => some (v, s)) =
    impl_FindNameK x.1 x.2.1 (fun r => some (out_impl_FindName r)) := by kernel_rfl
theorem sem_impl_FindName : ∀ x y, (fun x => impl_FindName x.1 x.2.1) x = some y → SemCall Try.prog 18 (encAr [.one (.dat (.sl tName)), .one (.dat .str)] [] x).1 (encAr [.one (.dat (.sl tName)), .one (.dat .str)] [] x).2 (out_impl_FindName y).1 (out_impl_FindName y).2 :=
  sem_of folP okP tabP (Oracle.of_ok (Oracle.cons_ok ok_impl_NamesValid (Oracle.cons_ok ok_impl_find Oracle.nil_ok))) lf_impl_FindName fun x => (w_impl_FindName x).trans (impl_FindName_eq x.1 x.2.1 _)
noncomputable def c_impl_FindName : Con := Con.shape [.one (.dat (.sl tName)), .one (.dat .str)] [] (fun x => impl_FindName x.1 x.2.1) out_impl_FindName
theorem ok_impl_FindName : ConOk Try.prog 18 c_impl_FindName := Con.shape_ok sem_impl_FindName

/-! 39 -/
def C_laws_eqName : Cfg := { T := tab, hint := fun _ => { keepR := [2, 3, 4, 9, 14, 19], res := [4] }, mode := fun _ => .borrow }
noncomputable def O_laws_eqName : Oracle := Oracle.of []
noncomputable def L_laws_eqName : Loops := Loops.of []
theorem lf_laws_eqName : LoopsFn Try.prog C_laws_eqName O_laws_eqName 39 L_laws_eqName := LoopsFn.nil' (by kernel_rfl)
def out_laws_eqName (r : Bool) : AV × Store := out1 (.one (.dat .bool)) [] (r, ())
theorem w_laws_eqName (x : FAr [.one (.dat tName), .one (.dat tName)] []) : evBodyK Try.prog C_laws_eqName O_laws_eqName L_laws_eqName 39 (encAr [.one (.dat tName), .one (.dat tName)] [] x).1 (encAr [.one (.dat tName), .one (.dat tName)] [] x).2 (fun v s => some (v, s)) =
    laws_eqNameK x.1 x.2.1 (fun r => some (out_laws_eqName r)) := by kernel_rfl
theorem sem_laws_eqName : ∀ x y, (fun x => laws_eqName x.1 x.2.1) x = some y → SemCall Try.prog 39 (encAr [.one (.dat tName), .one (.dat tName)] [] x).1 (encAr [.one (.dat tName), .one (.dat tName)] [] x).2 (out_laws_eqName y).1 (out_laws_eqName y).2 :=
  sem_of folP okP tabP (Oracle.of_ok Oracle.nil_ok) lf_laws_eqName fun x => (w_laws_eqName x).trans (laws_eqName_eq x.1 x.2.1 _)
noncomputable def c_laws_eqName : Con := Con.shape [.one (.dat tName), .one (.dat tName)] [] (fun x => laws_eqName x.1 x.2.1) out_laws_eqName
theorem ok_laws_eqName : ConOk Try.prog 39 c_laws_eqName := Con.shape_ok sem_laws_eqName

/-! 19 -/
def C_laws_eqNameS : Cfg := { T := tab, hint := fun _ => { keepR := [0, 1, 4, 5, 10, 14, 26], res := [4], order := [(6, [(0, .read), (1, .read), (2, .read), (3, .read), (4, .read), (5, .forced), (6, .forced), (7, .forced), (8, .forced), (9, .forced)])], keepL := [(0, [0, 1, 5])], keepX := [(0, []), (1, [0, 1, 5])] }, mode := fun _ => .borrow }
noncomputable def O_laws_eqNameS : Oracle := Oracle.of [(39, c_laws_eqName)]
def sh_laws_eqNameS_l0 : List (Nat × S2) := [(0, .one (.dat (.sl tName))), (1, .one (.dat (.sl tName))), (5, .one (.dat I))]
def bs_laws_eqNameS_l0 : List SB := []
noncomputable def lc_laws_eqNameS_l0 : LCon := LCon.shape sh_laws_eqNameS_l0 bs_laws_eqNameS_l0 laws_eqNameS_l0 (fun a => (.exit 0, encSt [] [] a)) (fun b => encSt [(4, .one (.dat .bool))] [] b)
noncomputable def L_laws_eqNameS : Loops := Loops.of [(0, lc_laws_eqNameS_l0)]
theorem r_laws_eqNameS_l0 (x : FSt sh_laws_eqNameS_l0 bs_laws_eqNameS_l0) : roundK C_laws_eqNameS.T (C_laws_eqNameS.hint 19) C_laws_eqNameS.mode O_laws_eqNameS L_laws_eqNameS 0 (lp Try.prog 19 0) (encSt sh_laws_eqNameS_l0 bs_laws_eqNameS_l0 x) (fun e s => some (e, s)) =
    laws_eqNameS_l0K x.1 x.2.1 x.2.2.1 (fun y => some (Ex.normal, encSt sh_laws_eqNameS_l0 bs_laws_eqNameS_l0 y)) (fun a => some (Ex.exit 0, encSt [] [] a)) (fun b => some (Ex.ret, encSt [(4, .one (.dat .bool))] [] b)) := by kernel_rfl
theorem lo_laws_eqNameS_l0 : LConOk C_laws_eqNameS.T (C_laws_eqNameS.hint 19) C_laws_eqNameS.mode O_laws_eqNameS L_laws_eqNameS 0 (lp Try.prog 19 0) lc_laws_eqNameS_l0 :=
  LCon.shape_ok (fun a => by simp) fun x => (r_laws_eqNameS_l0 x).trans (laws_eqNameS_l0_eq x.1 x.2.1 x.2.2.1 _ _ _)
theorem lf_laws_eqNameS : LoopsFn Try.prog C_laws_eqNameS O_laws_eqNameS 19 L_laws_eqNameS := LoopsFn.all (by kernel_rfl) (by decide) ⟨lo_laws_eqNameS_l0, trivial⟩
def out_laws_eqNameS (r : Bool) : AV × Store := out1 (.one (.dat .bool)) [] (r, ())
theorem w_laws_eqNameS (x : FAr [.one (.dat (.sl tName)), .one (.dat (.sl tName))] []) : evBodyK Try.prog C_laws_eqNameS O_laws_eqNameS L_laws_eqNameS 19 (encAr [.one (.dat (.sl tName)), .one (.dat (.sl tName))] [] x).1 (encAr [.one (.dat (.sl tName)), .one (.dat (.sl tName))] [] x).2 (fun v s => some (v, s)) =
    laws_eqNameSK x.1 x.2.1 (fun r => some (out_laws_eqNameS r)) := by kernel_rfl
theorem sem_laws_eqNameS : ∀ x y, (fun x => laws_eqNameS x.1 x.2.1) x = some y → SemCall Try.prog 19 (encAr [.one (.dat (.sl tName)), .one (.dat (.sl tName))] [] x).1 (encAr [.one (.dat (.sl tName)), .one (.dat (.sl tName))] [] x).2 (out_laws_eqNameS y).1 (out_laws_eqNameS y).2 :=
  sem_of folP okP tabP (Oracle.of_ok (Oracle.cons_ok ok_laws_eqName Oracle.nil_ok)) lf_laws_eqNameS fun x => (w_laws_eqNameS x).trans (laws_eqNameS_eq x.1 x.2.1 _)
noncomputable def c_laws_eqNameS : Con := Con.shape [.one (.dat (.sl tName)), .one (.dat (.sl tName))] [] (fun x => laws_eqNameS x.1 x.2.1) out_laws_eqNameS
theorem ok_laws_eqNameS : ConOk Try.prog 19 c_laws_eqNameS := Con.shape_ok sem_laws_eqNameS

/-! 4 -/
def C_laws_FnExactFindName : Cfg := { T := tab, hint := fun _ => { keepR := [0, 1, 4, 5, 6, 7, 8, 9, 10, 13, 18, 41, 46], res := [4] }, mode := fun _ => .borrow }
noncomputable def O_laws_FnExactFindName : Oracle := Oracle.of [(15, c_laws_szNameS), (16, c_spec_FindName), (17, c_laws_toNameS), (18, c_impl_FindName), (19, c_laws_eqNameS)]
noncomputable def L_laws_FnExactFindName : Loops := Loops.of []
theorem lf_laws_FnExactFindName : LoopsFn Try.prog C_laws_FnExactFindName O_laws_FnExactFindName 4 L_laws_FnExactFindName := LoopsFn.nil' (by kernel_rfl)
def out_laws_FnExactFindName (r : Bool) : AV × Store := out1 (.one (.dat .bool)) [] (r, ())
theorem w_laws_FnExactFindName (x : FAr [.one (.dat (.sl tName)), .one (.dat .str)] []) : evBodyK Try.prog C_laws_FnExactFindName O_laws_FnExactFindName L_laws_FnExactFindName 4 (encAr [.one (.dat (.sl tName)), .one (.dat .str)] [] x).1 (encAr [.one (.dat (.sl tName)), .one (.dat .str)] [] x).2 (fun v s => some (v, s)) =
    laws_FnExactFindNameK x.1 x.2.1 (fun r => some (out_laws_FnExactFindName r)) := by kernel_rfl
theorem sem_laws_FnExactFindName : ∀ x y, (fun x => laws_FnExactFindName x.1 x.2.1) x = some y → SemCall Try.prog 4 (encAr [.one (.dat (.sl tName)), .one (.dat .str)] [] x).1 (encAr [.one (.dat (.sl tName)), .one (.dat .str)] [] x).2 (out_laws_FnExactFindName y).1 (out_laws_FnExactFindName y).2 :=
  sem_of folP okP tabP (Oracle.of_ok (Oracle.cons_ok ok_laws_szNameS (Oracle.cons_ok ok_spec_FindName (Oracle.cons_ok ok_laws_toNameS (Oracle.cons_ok ok_impl_FindName (Oracle.cons_ok ok_laws_eqNameS Oracle.nil_ok)))))) lf_laws_FnExactFindName fun x => (w_laws_FnExactFindName x).trans (laws_FnExactFindName_eq x.1 x.2.1 _)
noncomputable def c_laws_FnExactFindName : Con := Con.shape [.one (.dat (.sl tName)), .one (.dat .str)] [] (fun x => laws_FnExactFindName x.1 x.2.1) out_laws_FnExactFindName
theorem ok_laws_FnExactFindName : ConOk Try.prog 4 c_laws_FnExactFindName := Con.shape_ok sem_laws_FnExactFindName

end Go.Ev
