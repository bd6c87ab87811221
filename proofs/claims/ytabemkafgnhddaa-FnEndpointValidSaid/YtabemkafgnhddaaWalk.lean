/-
  The walks: the program computes what the functions of plain data compute, wherever these come to a result; printed by a program of the prover.
-/
import Derived.Test.YtabemkafgnhddaaDefs
import Derived.Test.YtabemkafgnhddaaProg
import Derived.Test.YtabemkafgnhddaaAlive
namespace Go.Ev
open Go.Proofs
set_option linter.unusedVariables false
set_option linter.unusedSimpArgs false
set_option maxRecDepth 100000
def tys : List (Nat × Ty) := [(3, I), (4, .bool), (5, (.int .u8)), (22, (.sl tWaiter)), (24, tEndpoint), (27, (.sl tWaiter)), (29, tEndpoint), (33, (.sl (.int .u8))), (37, tWaiter), (45, tWaiter), (78, tl20Rd), (88, (.sl I))]
def tups : List (Nat × List Ty) := [(39, [tEndpoint, .bool]), (43, [tEndpoint, I]), (49, [tEndpoint, tWaiter, .bool]), (53, [tEndpoint, tWaiter]), (55, [tEndpoint, I, I])]
def tab : Tab := tabOf tys tups
theorem okP : progOk Try.prog = true := by kernel_rfl
theorem tabP : TabOk Try.prog tab := tabOf_ok (by kernel_rfl)
theorem folP : Try.prog.follows .mixedOrders = true := by kernel_rfl
/-! 34 -/
def C_laws_szWaiterS : Cfg := { T := tab, hint := fun _ => { keepR := [0, 1, 4, 10], res := [4] }, mode := fun _ => .borrow }
noncomputable def O_laws_szWaiterS : Oracle := Oracle.of []
noncomputable def L_laws_szWaiterS : Loops := Loops.of []
theorem lf_laws_szWaiterS : LoopsFn Try.prog C_laws_szWaiterS O_laws_szWaiterS 34 L_laws_szWaiterS := LoopsFn.nil' (by kernel_rfl)
def out_laws_szWaiterS (r : Int) : AV × Store := out1 (.one (.dat I)) [] (r, ())
theorem w_laws_szWaiterS (x : FAr [.one (.dat (.sl tWaiter)), .one (.dat I)] []) : evBodyK Try.prog C_laws_szWaiterS O_laws_szWaiterS L_laws_szWaiterS 34 (encAr [.one (.dat (.sl tWaiter)), .one (.dat I)] [] x).1 (encAr [.one (.dat (.sl tWaiter)), .one (.dat I)] [] x).2 (fun v s => some (v, s)) =
    laws_szWaiterSK x.1 x.2.1 (fun r => some (out_laws_szWaiterS r)) := by kernel_rfl
theorem sem_laws_szWaiterS : ∀ x y, (fun x => laws_szWaiterS x.1 x.2.1) x = some y → SemCall Try.prog 34 (encAr [.one (.dat (.sl tWaiter)), .one (.dat I)] [] x).1 (encAr [.one (.dat (.sl tWaiter)), .one (.dat I)] [] x).2 (out_laws_szWaiterS y).1 (out_laws_szWaiterS y).2 :=
  sem_of folP okP tabP (Oracle.of_ok Oracle.nil_ok) lf_laws_szWaiterS fun x => (w_laws_szWaiterS x).trans (laws_szWaiterS_eq x.1 x.2.1 _)
noncomputable def c_laws_szWaiterS : Con := Con.shape [.one (.dat (.sl tWaiter)), .one (.dat I)] [] (fun x => laws_szWaiterS x.1 x.2.1) out_laws_szWaiterS
theorem ok_laws_szWaiterS : ConOk Try.prog 34 c_laws_szWaiterS := Con.shape_ok sem_laws_szWaiterS

/-! 13 -/
def C_laws_szEndpoint : Cfg := { T := tab, hint := fun _ => { keepR := [1, 2, 4, 10], res := [4] }, mode := fun _ => .borrow }
noncomputable def O_laws_szEndpoint : Oracle := Oracle.of [(34, c_laws_szWaiterS)]
noncomputable def L_laws_szEndpoint : Loops := Loops.of []
theorem lf_laws_szEndpoint : LoopsFn Try.prog C_laws_szEndpoint O_laws_szEndpoint 13 L_laws_szEndpoint := LoopsFn.nil' (by kernel_rfl)
def out_laws_szEndpoint (r : Int) : AV × Store := out1 (.one (.dat I)) [] (r, ())
theorem w_laws_szEndpoint (x : FAr [.one (.dat tEndpoint), .one (.dat I)] []) : evBodyK Try.prog C_laws_szEndpoint O_laws_szEndpoint L_laws_szEndpoint 13 (encAr [.one (.dat tEndpoint), .one (.dat I)] [] x).1 (encAr [.one (.dat tEndpoint), .one (.dat I)] [] x).2 (fun v s => some (v, s)) =
    laws_szEndpointK x.1 x.2.1 (fun r => some (out_laws_szEndpoint r)) := by kernel_rfl
theorem sem_laws_szEndpoint : ∀ x y, (fun x => laws_szEndpoint x.1 x.2.1) x = some y → SemCall Try.prog 13 (encAr [.one (.dat tEndpoint), .one (.dat I)] [] x).1 (encAr [.one (.dat tEndpoint), .one (.dat I)] [] x).2 (out_laws_szEndpoint y).1 (out_laws_szEndpoint y).2 :=
  sem_of folP okP tabP (Oracle.of_ok (Oracle.cons_ok ok_laws_szWaiterS Oracle.nil_ok)) lf_laws_szEndpoint fun x => (w_laws_szEndpoint x).trans (laws_szEndpoint_eq x.1 x.2.1 _)
noncomputable def c_laws_szEndpoint : Con := Con.shape [.one (.dat tEndpoint), .one (.dat I)] [] (fun x => laws_szEndpoint x.1 x.2.1) out_laws_szEndpoint
theorem ok_laws_szEndpoint : ConOk Try.prog 13 c_laws_szEndpoint := Con.shape_ok sem_laws_szEndpoint

/-! 27 -/
def C_laws_toWaiter : Cfg := { T := tab, hint := fun _ => { mu := [2, 3], keepR := [1, 2, 3], res := [2] }, mode := fun _ => .borrow }
noncomputable def O_laws_toWaiter : Oracle := Oracle.of []
noncomputable def L_laws_toWaiter : Loops := Loops.of []
theorem lf_laws_toWaiter : LoopsFn Try.prog C_laws_toWaiter O_laws_toWaiter 27 L_laws_toWaiter := LoopsFn.nil' (by kernel_rfl)
def out_laws_toWaiter (r : DWaiter) : AV × Store := out1 (.one (.dat tWaiter)) [] (r, ())
theorem w_laws_toWaiter (x : FAr [.one (.dat tWaiter)] []) : evBodyK Try.prog C_laws_toWaiter O_laws_toWaiter L_laws_toWaiter 27 (encAr [.one (.dat tWaiter)] [] x).1 (encAr [.one (.dat tWaiter)] [] x).2 (fun v s => some (v, s)) =
    laws_toWaiterK x.1 (fun r => some (out_laws_toWaiter r)) := by kernel_rfl
theorem sem_laws_toWaiter : ∀ x y, (fun x => laws_toWaiter x.1) x = some y → SemCall Try.prog 27 (encAr [.one (.dat tWaiter)] [] x).1 (encAr [.one (.dat tWaiter)] [] x).2 (out_laws_toWaiter y).1 (out_laws_toWaiter y).2 :=
  sem_of folP okP tabP (Oracle.of_ok Oracle.nil_ok) lf_laws_toWaiter fun x => (w_laws_toWaiter x).trans (laws_toWaiter_eq x.1 _)
noncomputable def c_laws_toWaiter : Con := Con.shape [.one (.dat tWaiter)] [] (fun x => laws_toWaiter x.1) out_laws_toWaiter
theorem ok_laws_toWaiter : ConOk Try.prog 27 c_laws_toWaiter := Con.shape_ok sem_laws_toWaiter

/-! 36 -/
def C_laws_toWaiterS : Cfg := { T := tab, hint := fun _ => { mu := [7], keepR := [0, 2, 3, 4, 11], res := [2], keepL := [(0, [0, 3, 4])], keepX := [(0, [3]), (1, [0, 3, 4])] }, mode := fun _ => .borrow }
noncomputable def O_laws_toWaiterS : Oracle := Oracle.of [(27, c_laws_toWaiter)]
def sh_laws_toWaiterS_l0 : List (Nat × S2) := [(0, .one (.dat (.sl tWaiter))), (3, .one (.all 0)), (4, .one (.dat I))]
def bs_laws_toWaiterS_l0 : List SB := [.data tWaiter]
noncomputable def lc_laws_toWaiterS_l0 : LCon := LCon.shape1 sh_laws_toWaiterS_l0 bs_laws_toWaiterS_l0 laws_toWaiterS_l0 (fun a => (.exit 0, encSt [(3, .one (.all 0))] [.data tWaiter] a))
noncomputable def L_laws_toWaiterS : Loops := Loops.of [(0, lc_laws_toWaiterS_l0)]
theorem r_laws_toWaiterS_l0 (x : FSt sh_laws_toWaiterS_l0 bs_laws_toWaiterS_l0) : roundK C_laws_toWaiterS.T (C_laws_toWaiterS.hint 36) C_laws_toWaiterS.mode O_laws_toWaiterS L_laws_toWaiterS 0 (lp Try.prog 36 0) (encSt sh_laws_toWaiterS_l0 bs_laws_toWaiterS_l0 x) (fun e s => some (e, s)) =
    laws_toWaiterS_l0K x.1 x.2.1 x.2.2.1 (fun y => some (Ex.normal, encSt sh_laws_toWaiterS_l0 bs_laws_toWaiterS_l0 y)) (fun a => some (Ex.exit 0, encSt [(3, .one (.all 0))] [.data tWaiter] a)) := by kernel_rfl
theorem lo_laws_toWaiterS_l0 : LConOk C_laws_toWaiterS.T (C_laws_toWaiterS.hint 36) C_laws_toWaiterS.mode O_laws_toWaiterS L_laws_toWaiterS 0 (lp Try.prog 36 0) lc_laws_toWaiterS_l0 :=
  LCon.shape1_ok (fun a => by simp) fun x => (r_laws_toWaiterS_l0 x).trans (laws_toWaiterS_l0_eq x.1 x.2.1 x.2.2.1 _ _)
theorem lf_laws_toWaiterS : LoopsFn Try.prog C_laws_toWaiterS O_laws_toWaiterS 36 L_laws_toWaiterS := LoopsFn.all (by kernel_rfl) (by decide) ⟨lo_laws_toWaiterS_l0, trivial⟩
def out_laws_toWaiterS (r : (List DWaiter)) : AV × Store := out1 (.one (.all 0)) [.data tWaiter] (r, ())
theorem w_laws_toWaiterS (x : FAr [.one (.dat (.sl tWaiter))] []) : evBodyK Try.prog C_laws_toWaiterS O_laws_toWaiterS L_laws_toWaiterS 36 (encAr [.one (.dat (.sl tWaiter))] [] x).1 (encAr [.one (.dat (.sl tWaiter))] [] x).2 (fun v s => some (v, s)) =
    laws_toWaiterSK x.1 (fun r => some (out_laws_toWaiterS r)) := by kernel_rfl
theorem sem_laws_toWaiterS : ∀ x y, (fun x => laws_toWaiterS x.1) x = some y → SemCall Try.prog 36 (encAr [.one (.dat (.sl tWaiter))] [] x).1 (encAr [.one (.dat (.sl tWaiter))] [] x).2 (out_laws_toWaiterS y).1 (out_laws_toWaiterS y).2 :=
  sem_of folP okP tabP (Oracle.of_ok (Oracle.cons_ok ok_laws_toWaiter Oracle.nil_ok)) lf_laws_toWaiterS fun x => (w_laws_toWaiterS x).trans (laws_toWaiterS_eq x.1 _)
noncomputable def c_laws_toWaiterS : Con := Con.shape [.one (.dat (.sl tWaiter))] [] (fun x => laws_toWaiterS x.1) out_laws_toWaiterS
theorem ok_laws_toWaiterS : ConOk Try.prog 36 c_laws_toWaiterS := Con.shape_ok sem_laws_toWaiterS

/-! 15 -/
def C_laws_toEndpoint : Cfg := { T := tab, hint := fun _ => { mu := [2, 3, 9], keepR := [1, 2, 3], res := [2] }, mode := fun _ => .borrow }
noncomputable def O_laws_toEndpoint : Oracle := Oracle.of [(36, c_laws_toWaiterS)]
noncomputable def L_laws_toEndpoint : Loops := Loops.of []
theorem lf_laws_toEndpoint : LoopsFn Try.prog C_laws_toEndpoint O_laws_toEndpoint 15 L_laws_toEndpoint := LoopsFn.nil' (by kernel_rfl)
def out_laws_toEndpoint (r : Bool × (List DWaiter)) : AV × Store := out1 (.agg [.dat .bool, .all 0]) [.data tWaiter] (r.1, r.2, ())
theorem w_laws_toEndpoint (x : FAr [.one (.dat tEndpoint)] []) : evBodyK Try.prog C_laws_toEndpoint O_laws_toEndpoint L_laws_toEndpoint 15 (encAr [.one (.dat tEndpoint)] [] x).1 (encAr [.one (.dat tEndpoint)] [] x).2 (fun v s => some (v, s)) =
    laws_toEndpointK x.1 (fun r => some (out_laws_toEndpoint r)) := by kernel_rfl
theorem sem_laws_toEndpoint : ∀ x y, (fun x => laws_toEndpoint x.1) x = some y → SemCall Try.prog 15 (encAr [.one (.dat tEndpoint)] [] x).1 (encAr [.one (.dat tEndpoint)] [] x).2 (out_laws_toEndpoint y).1 (out_laws_toEndpoint y).2 :=
  sem_of folP okP tabP (Oracle.of_ok (Oracle.cons_ok ok_laws_toWaiterS Oracle.nil_ok)) lf_laws_toEndpoint fun x => (w_laws_toEndpoint x).trans (laws_toEndpoint_eq x.1 _)
noncomputable def c_laws_toEndpoint : Con := Con.shape [.one (.dat tEndpoint)] [] (fun x => laws_toEndpoint x.1) out_laws_toEndpoint
theorem ok_laws_toEndpoint : ConOk Try.prog 15 c_laws_toEndpoint := Con.shape_ok sem_laws_toEndpoint

/-! 35 -/
def C_spec_l1In : Cfg := { T := tab, hint := fun _ => { keepR := [0, 1, 2, 6], res := [6] }, mode := fun _ => .borrow }
noncomputable def O_spec_l1In : Oracle := Oracle.of []
noncomputable def L_spec_l1In : Loops := Loops.of []
theorem lf_spec_l1In : LoopsFn Try.prog C_spec_l1In O_spec_l1In 35 L_spec_l1In := LoopsFn.nil' (by kernel_rfl)
def out_spec_l1In (r : Bool) : AV × Store := out1 (.one (.dat .bool)) [] (r, ())
theorem w_spec_l1In (x : FAr [.one (.dat I), .one (.dat I), .one (.dat I)] []) : evBodyK Try.prog C_spec_l1In O_spec_l1In L_spec_l1In 35 (encAr [.one (.dat I), .one (.dat I), .one (.dat I)] [] x).1 (encAr [.one (.dat I), .one (.dat I), .one (.dat I)] [] x).2 (fun v s => some (v, s)) =
    spec_l1InK x.1 x.2.1 x.2.2.1 (fun r => some (out_spec_l1In r)) := by kernel_rfl
theorem sem_spec_l1In : ∀ x y, (fun x => spec_l1In x.1 x.2.1 x.2.2.1) x = some y → SemCall Try.prog 35 (encAr [.one (.dat I), .one (.dat I), .one (.dat I)] [] x).1 (encAr [.one (.dat I), .one (.dat I), .one (.dat I)] [] x).2 (out_spec_l1In y).1 (out_spec_l1In y).2 :=
  sem_of folP okP tabP (Oracle.of_ok Oracle.nil_ok) lf_spec_l1In fun x => (w_spec_l1In x).trans (spec_l1In_eq x.1 x.2.1 x.2.2.1 _)
noncomputable def c_spec_l1In : Con := Con.shape [.one (.dat I), .one (.dat I), .one (.dat I)] [] (fun x => spec_l1In x.1 x.2.1 x.2.2.1) out_spec_l1In
theorem ok_spec_l1In : ConOk Try.prog 35 c_spec_l1In := Con.shape_ok sem_spec_l1In

/-! 14 -/
def C_spec_EndpointValid : Cfg := { T := tab, hint := fun _ => { mu := [4], keepR := [1, 2, 3, 4, 5, 10, 64, 67, 78], res := [2], order := [(5, [(0, .forced), (1, .forced), (2, .forced), (3, .forced), (4, .forced), (5, .forced), (6, .forced), (7, .forced), (8, .forced), (9, .forced), (10, .forced), (11, .forced), (12, .forced), (13, .forced), (14, .forced), (15, .forced), (16, .forced), (17, .forced), (18, .forced), (19, .forced), (20, .read), (21, .read), (22, .read), (23, .read), (24, .read), (25, .read), (26, .read), (27, .forced), (28, .forced), (29, .forced), (30, .forced), (31, .forced), (32, .forced), (33, .forced), (34, .forced), (35, .forced), (36, .forced), (37, .forced), (38, .forced), (39, .forced), (40, .forced), (41, .forced), (42, .forced), (43, .forced), (44, .forced), (45, .forced), (46, .forced)]), (10, [(0, .read), (1, .read), (2, .read), (3, .read), (4, .read), (5, .read), (6, .forced), (7, .forced), (8, .forced)])], keepL := [(0, [1, 3]), (2, [1, 3, 4, 5])], keepX := [(0, [1]), (1, [1, 3]), (2, [1, 3]), (3, [1, 3, 4, 5])] }, mode := fun _ => .borrow }
noncomputable def O_spec_EndpointValid : Oracle := Oracle.of [(35, c_spec_l1In)]
def sh_spec_EndpointValid_l0 : List (Nat × S2) := [(1, .one (.cdat tEndpoint 0)), (3, .one (.dat I))]
def bs_spec_EndpointValid_l0 : List SB := []
noncomputable def lc_spec_EndpointValid_l0 : LCon := LCon.shape sh_spec_EndpointValid_l0 bs_spec_EndpointValid_l0 spec_EndpointValid_l0 (fun a => (.exit 0, encSt [(1, .one (.cdat tEndpoint 0))] [] a)) (fun b => encSt [(2, .one (.dat .bool))] [] b)
def sh_spec_EndpointValid_l2 : List (Nat × S2) := [(1, .one (.cdat tEndpoint 0)), (3, .one (.dat I)), (4, .one (.ptr 0 0 0)), (5, .one (.dat I))]
def bs_spec_EndpointValid_l2 : List SB := [.one tWaiter]
noncomputable def lc_spec_EndpointValid_l2 : LCon := LCon.shape sh_spec_EndpointValid_l2 bs_spec_EndpointValid_l2 spec_EndpointValid_l2 (fun a => (.exit 2, encSt [(1, .one (.cdat tEndpoint 0)), (3, .one (.dat I))] [] a)) (fun b => encSt [(2, .one (.dat .bool))] [] b)
noncomputable def L_spec_EndpointValid : Loops := Loops.of [(0, lc_spec_EndpointValid_l0), (2, lc_spec_EndpointValid_l2)]
theorem r_spec_EndpointValid_l0 (x : FSt sh_spec_EndpointValid_l0 bs_spec_EndpointValid_l0) : roundK C_spec_EndpointValid.T (C_spec_EndpointValid.hint 14) C_spec_EndpointValid.mode O_spec_EndpointValid L_spec_EndpointValid 0 (lp Try.prog 14 0) (encSt sh_spec_EndpointValid_l0 bs_spec_EndpointValid_l0 x) (fun e s => some (e, s)) =
    spec_EndpointValid_l0K x.1 x.2.1 (fun y => some (Ex.normal, encSt sh_spec_EndpointValid_l0 bs_spec_EndpointValid_l0 y)) (fun a => some (Ex.exit 0, encSt [(1, .one (.cdat tEndpoint 0))] [] a)) (fun b => some (Ex.ret, encSt [(2, .one (.dat .bool))] [] b)) := by kernel_rfl
theorem lo_spec_EndpointValid_l0 : LConOk C_spec_EndpointValid.T (C_spec_EndpointValid.hint 14) C_spec_EndpointValid.mode O_spec_EndpointValid L_spec_EndpointValid 0 (lp Try.prog 14 0) lc_spec_EndpointValid_l0 :=
  LCon.shape_ok (fun a => by simp) fun x => (r_spec_EndpointValid_l0 x).trans (spec_EndpointValid_l0_eq x.1 x.2.1 _ _ _)
theorem r_spec_EndpointValid_l2 (x : FSt sh_spec_EndpointValid_l2 bs_spec_EndpointValid_l2) : roundK C_spec_EndpointValid.T (C_spec_EndpointValid.hint 14) C_spec_EndpointValid.mode O_spec_EndpointValid L_spec_EndpointValid 2 (lp Try.prog 14 1) (encSt sh_spec_EndpointValid_l2 bs_spec_EndpointValid_l2 x) (fun e s => some (e, s)) =
    spec_EndpointValid_l2K x.1 x.2.1 x.2.2.1 x.2.2.2.1 (fun y => some (Ex.normal, encSt sh_spec_EndpointValid_l2 bs_spec_EndpointValid_l2 y)) (fun a => some (Ex.exit 2, encSt [(1, .one (.cdat tEndpoint 0)), (3, .one (.dat I))] [] a)) (fun b => some (Ex.ret, encSt [(2, .one (.dat .bool))] [] b)) := by kernel_rfl
theorem lo_spec_EndpointValid_l2 : LConOk C_spec_EndpointValid.T (C_spec_EndpointValid.hint 14) C_spec_EndpointValid.mode O_spec_EndpointValid L_spec_EndpointValid 2 (lp Try.prog 14 1) lc_spec_EndpointValid_l2 :=
  LCon.shape_ok (fun a => by simp) fun x => (r_spec_EndpointValid_l2 x).trans (spec_EndpointValid_l2_eq x.1 x.2.1 x.2.2.1 x.2.2.2.1 _ _ _)
theorem lf_spec_EndpointValid : LoopsFn Try.prog C_spec_EndpointValid O_spec_EndpointValid 14 L_spec_EndpointValid := LoopsFn.all (by kernel_rfl) (by decide) ⟨lo_spec_EndpointValid_l0, lo_spec_EndpointValid_l2, trivial⟩
def out_spec_EndpointValid (r : Bool) : AV × Store := out1 (.one (.dat .bool)) [] (r, ())
theorem w_spec_EndpointValid (x : FAr [.one (.dat tEndpoint)] []) : evBodyK Try.prog C_spec_EndpointValid O_spec_EndpointValid L_spec_EndpointValid 14 (encAr [.one (.dat tEndpoint)] [] x).1 (encAr [.one (.dat tEndpoint)] [] x).2 (fun v s => some (v, s)) =
    spec_EndpointValidK x.1 (fun r => some (out_spec_EndpointValid r)) := by kernel_rfl
theorem sem_spec_EndpointValid : ∀ x y, (fun x => spec_EndpointValid x.1) x = some y → SemCall Try.prog 14 (encAr [.one (.dat tEndpoint)] [] x).1 (encAr [.one (.dat tEndpoint)] [] x).2 (out_spec_EndpointValid y).1 (out_spec_EndpointValid y).2 :=
  sem_of folP okP tabP (Oracle.of_ok (Oracle.cons_ok ok_spec_l1In Oracle.nil_ok)) lf_spec_EndpointValid fun x => (w_spec_EndpointValid x).trans (spec_EndpointValid_eq x.1 _)
noncomputable def c_spec_EndpointValid : Con := Con.shape [.one (.dat tEndpoint)] [] (fun x => spec_EndpointValid x.1) out_spec_EndpointValid
theorem ok_spec_EndpointValid : ConOk Try.prog 14 c_spec_EndpointValid := Con.shape_ok sem_spec_EndpointValid

/-! 54 -/
def C_impl_in : Cfg := { T := tab, hint := fun _ => { keepR := [0, 1, 2, 6], res := [6] }, mode := fun _ => .borrow }
noncomputable def O_impl_in : Oracle := Oracle.of []
noncomputable def L_impl_in : Loops := Loops.of []
theorem lf_impl_in : LoopsFn Try.prog C_impl_in O_impl_in 54 L_impl_in := LoopsFn.nil' (by kernel_rfl)
def out_impl_in (r : Bool) : AV × Store := out1 (.one (.dat .bool)) [] (r, ())
theorem w_impl_in (x : FAr [.one (.dat I), .one (.dat I), .one (.dat I)] []) : evBodyK Try.prog C_impl_in O_impl_in L_impl_in 54 (encAr [.one (.dat I), .one (.dat I), .one (.dat I)] [] x).1 (encAr [.one (.dat I), .one (.dat I), .one (.dat I)] [] x).2 (fun v s => some (v, s)) =
    impl_inK x.1 x.2.1 x.2.2.1 (fun r => some (out_impl_in r)) := by kernel_rfl
theorem sem_impl_in : ∀ x y, (fun x => impl_in x.1 x.2.1 x.2.2.1) x = some y → SemCall Try.prog 54 (encAr [.one (.dat I), .one (.dat I), .one (.dat I)] [] x).1 (encAr [.one (.dat I), .one (.dat I), .one (.dat I)] [] x).2 (out_impl_in y).1 (out_impl_in y).2 :=
  sem_of folP okP tabP (Oracle.of_ok Oracle.nil_ok) lf_impl_in fun x => (w_impl_in x).trans (impl_in_eq x.1 x.2.1 x.2.2.1 _)
noncomputable def c_impl_in : Con := Con.shape [.one (.dat I), .one (.dat I), .one (.dat I)] [] (fun x => impl_in x.1 x.2.1 x.2.2.1) out_impl_in
theorem ok_impl_in : ConOk Try.prog 54 c_impl_in := Con.shape_ok sem_impl_in

/-! 52 -/
def C_impl_isThread : Cfg := { T := tab, hint := fun _ => { keepR := [0, 2], res := [2] }, mode := fun _ => .borrow }
noncomputable def O_impl_isThread : Oracle := Oracle.of [(54, c_impl_in)]
noncomputable def L_impl_isThread : Loops := Loops.of []
theorem lf_impl_isThread : LoopsFn Try.prog C_impl_isThread O_impl_isThread 52 L_impl_isThread := LoopsFn.nil' (by kernel_rfl)
def out_impl_isThread (r : Bool) : AV × Store := out1 (.one (.dat .bool)) [] (r, ())
theorem w_impl_isThread (x : FAr [.one (.dat I)] []) : evBodyK Try.prog C_impl_isThread O_impl_isThread L_impl_isThread 52 (encAr [.one (.dat I)] [] x).1 (encAr [.one (.dat I)] [] x).2 (fun v s => some (v, s)) =
    impl_isThreadK x.1 (fun r => some (out_impl_isThread r)) := by kernel_rfl
theorem sem_impl_isThread : ∀ x y, (fun x => impl_isThread x.1) x = some y → SemCall Try.prog 52 (encAr [.one (.dat I)] [] x).1 (encAr [.one (.dat I)] [] x).2 (out_impl_isThread y).1 (out_impl_isThread y).2 :=
  sem_of folP okP tabP (Oracle.of_ok (Oracle.cons_ok ok_impl_in Oracle.nil_ok)) lf_impl_isThread fun x => (w_impl_isThread x).trans (impl_isThread_eq x.1 _)
noncomputable def c_impl_isThread : Con := Con.shape [.one (.dat I)] [] (fun x => impl_isThread x.1) out_impl_isThread
theorem ok_impl_isThread : ConOk Try.prog 52 c_impl_isThread := Con.shape_ok sem_impl_isThread

/-! 53 -/
def C_impl_isPrio : Cfg := { T := tab, hint := fun _ => { keepR := [0, 2], res := [2] }, mode := fun _ => .borrow }
noncomputable def O_impl_isPrio : Oracle := Oracle.of [(54, c_impl_in)]
noncomputable def L_impl_isPrio : Loops := Loops.of []
theorem lf_impl_isPrio : LoopsFn Try.prog C_impl_isPrio O_impl_isPrio 53 L_impl_isPrio := LoopsFn.nil' (by kernel_rfl)
def out_impl_isPrio (r : Bool) : AV × Store := out1 (.one (.dat .bool)) [] (r, ())
theorem w_impl_isPrio (x : FAr [.one (.dat I)] []) : evBodyK Try.prog C_impl_isPrio O_impl_isPrio L_impl_isPrio 53 (encAr [.one (.dat I)] [] x).1 (encAr [.one (.dat I)] [] x).2 (fun v s => some (v, s)) =
    impl_isPrioK x.1 (fun r => some (out_impl_isPrio r)) := by kernel_rfl
theorem sem_impl_isPrio : ∀ x y, (fun x => impl_isPrio x.1) x = some y → SemCall Try.prog 53 (encAr [.one (.dat I)] [] x).1 (encAr [.one (.dat I)] [] x).2 (out_impl_isPrio y).1 (out_impl_isPrio y).2 :=
  sem_of folP okP tabP (Oracle.of_ok (Oracle.cons_ok ok_impl_in Oracle.nil_ok)) lf_impl_isPrio fun x => (w_impl_isPrio x).trans (impl_isPrio_eq x.1 _)
noncomputable def c_impl_isPrio : Con := Con.shape [.one (.dat I)] [] (fun x => impl_isPrio x.1) out_impl_isPrio
theorem ok_impl_isPrio : ConOk Try.prog 53 c_impl_isPrio := Con.shape_ok sem_impl_isPrio

/-! 37 -/
def C_impl_Waiter_may : Cfg := { T := tab, hint := fun _ => { keepR := [1, 2], res := [2] }, mode := fun _ => .borrow }
noncomputable def O_impl_Waiter_may : Oracle := Oracle.of [(52, c_impl_isThread), (53, c_impl_isPrio), (54, c_impl_in)]
noncomputable def L_impl_Waiter_may : Loops := Loops.of []
theorem lf_impl_Waiter_may : LoopsFn Try.prog C_impl_Waiter_may O_impl_Waiter_may 37 L_impl_Waiter_may := LoopsFn.nil' (by kernel_rfl)
def out_impl_Waiter_may (r : Bool) : AV × Store := out1 (.one (.dat .bool)) [] (r, ())
theorem w_impl_Waiter_may (x : FAr [.one (.dat tWaiter)] []) : evBodyK Try.prog C_impl_Waiter_may O_impl_Waiter_may L_impl_Waiter_may 37 (encAr [.one (.dat tWaiter)] [] x).1 (encAr [.one (.dat tWaiter)] [] x).2 (fun v s => some (v, s)) =
    impl_Waiter_mayK x.1 (fun r => some (out_impl_Waiter_may r)) := by kernel_rfl
theorem sem_impl_Waiter_may : ∀ x y, (fun x => impl_Waiter_may x.1) x = some y → SemCall Try.prog 37 (encAr [.one (.dat tWaiter)] [] x).1 (encAr [.one (.dat tWaiter)] [] x).2 (out_impl_Waiter_may y).1 (out_impl_Waiter_may y).2 :=
  sem_of folP okP tabP (Oracle.of_ok (Oracle.cons_ok ok_impl_isThread (Oracle.cons_ok ok_impl_isPrio (Oracle.cons_ok ok_impl_in Oracle.nil_ok)))) lf_impl_Waiter_may fun x => (w_impl_Waiter_may x).trans (impl_Waiter_may_eq x.1 _)
noncomputable def c_impl_Waiter_may : Con := Con.shape [.one (.dat tWaiter)] [] (fun x => impl_Waiter_may x.1) out_impl_Waiter_may
theorem ok_impl_Waiter_may : ConOk Try.prog 37 c_impl_Waiter_may := Con.shape_ok sem_impl_Waiter_may

/-! 56 -/
def C_impl_Endpoint_at_c1 : Cfg := { T := tab, hint := fun _ => { keepR := [1, 2, 3], res := [3] }, mode := fun _ => .borrow }
noncomputable def O_impl_Endpoint_at_c1 : Oracle := Oracle.of []
noncomputable def L_impl_Endpoint_at_c1 : Loops := Loops.of []
theorem lf_impl_Endpoint_at_c1 : LoopsFn Try.prog C_impl_Endpoint_at_c1 O_impl_Endpoint_at_c1 56 L_impl_Endpoint_at_c1 := LoopsFn.nil' (by kernel_rfl)
def out_impl_Endpoint_at_c1 (r : Bool) : AV × Store := out1 (.one (.dat .bool)) [] (r, ())
theorem w_impl_Endpoint_at_c1 (x : FAr [.one (.dat tWaiter), .one (.cdat I 0)] []) : evBodyK Try.prog C_impl_Endpoint_at_c1 O_impl_Endpoint_at_c1 L_impl_Endpoint_at_c1 56 (encAr [.one (.dat tWaiter), .one (.cdat I 0)] [] x).1 (encAr [.one (.dat tWaiter), .one (.cdat I 0)] [] x).2 (fun v s => some (v, s)) =
    impl_Endpoint_at_c1K x.1 x.2.1 (fun r => some (out_impl_Endpoint_at_c1 r)) := by kernel_rfl
theorem sem_impl_Endpoint_at_c1 : ∀ x y, (fun x => impl_Endpoint_at_c1 x.1 x.2.1) x = some y → SemCall Try.prog 56 (encAr [.one (.dat tWaiter), .one (.cdat I 0)] [] x).1 (encAr [.one (.dat tWaiter), .one (.cdat I 0)] [] x).2 (out_impl_Endpoint_at_c1 y).1 (out_impl_Endpoint_at_c1 y).2 :=
  sem_of folP okP tabP (Oracle.of_ok Oracle.nil_ok) lf_impl_Endpoint_at_c1 fun x => (w_impl_Endpoint_at_c1 x).trans (impl_Endpoint_at_c1_eq x.1 x.2.1 _)
noncomputable def c_impl_Endpoint_at_c1 : Con := Con.shape [.one (.dat tWaiter), .one (.cdat I 0)] [] (fun x => impl_Endpoint_at_c1 x.1 x.2.1) out_impl_Endpoint_at_c1
theorem ok_impl_Endpoint_at_c1 : ConOk Try.prog 56 c_impl_Endpoint_at_c1 := Con.shape_ok sem_impl_Endpoint_at_c1

/-! 55 -/
def C_slices_IndexFunc_Waiter : Cfg := { T := tab, hint := fun _ => { keepR := [0, 1, 4, 5, 7, 8, 9, 16], res := [4], keepL := [(0, [0, 1, 7, 8])], keepX := [(0, []), (1, [0, 1, 7, 8])] }, mode := fun _ => .borrow }
noncomputable def O_slices_IndexFunc_Waiter : Oracle := Oracle.of [(56, c_impl_Endpoint_at_c1)]
def sh_slices_IndexFunc_Waiter_l0 : List (Nat × S2) := [(0, .one (.dat (.sl tWaiter))), (1, .fn 56 [.cdat I 0]), (7, .one (.dat I)), (8, .one (.dat I))]
def bs_slices_IndexFunc_Waiter_l0 : List SB := []
noncomputable def lc_slices_IndexFunc_Waiter_l0 : LCon := LCon.shape sh_slices_IndexFunc_Waiter_l0 bs_slices_IndexFunc_Waiter_l0 slices_IndexFunc_Waiter_l0 (fun a => (.exit 0, encSt [] [] a)) (fun b => encSt [(4, .one (.dat I))] [] b)
noncomputable def L_slices_IndexFunc_Waiter : Loops := Loops.of [(0, lc_slices_IndexFunc_Waiter_l0)]
theorem r_slices_IndexFunc_Waiter_l0 (x : FSt sh_slices_IndexFunc_Waiter_l0 bs_slices_IndexFunc_Waiter_l0) : roundK C_slices_IndexFunc_Waiter.T (C_slices_IndexFunc_Waiter.hint 55) C_slices_IndexFunc_Waiter.mode O_slices_IndexFunc_Waiter L_slices_IndexFunc_Waiter 0 (lp Try.prog 55 0) (encSt sh_slices_IndexFunc_Waiter_l0 bs_slices_IndexFunc_Waiter_l0 x) (fun e s => some (e, s)) =
    slices_IndexFunc_Waiter_l0K x.1 x.2.1 x.2.2.1 x.2.2.2.1 (fun y => some (Ex.normal, encSt sh_slices_IndexFunc_Waiter_l0 bs_slices_IndexFunc_Waiter_l0 y)) (fun a => some (Ex.exit 0, encSt [] [] a)) (fun b => some (Ex.ret, encSt [(4, .one (.dat I))] [] b)) := by kernel_rfl
theorem lo_slices_IndexFunc_Waiter_l0 : LConOk C_slices_IndexFunc_Waiter.T (C_slices_IndexFunc_Waiter.hint 55) C_slices_IndexFunc_Waiter.mode O_slices_IndexFunc_Waiter L_slices_IndexFunc_Waiter 0 (lp Try.prog 55 0) lc_slices_IndexFunc_Waiter_l0 :=
  LCon.shape_ok (fun a => by simp) fun x => (r_slices_IndexFunc_Waiter_l0 x).trans (slices_IndexFunc_Waiter_l0_eq x.1 x.2.1 x.2.2.1 x.2.2.2.1 _ _ _)
theorem lf_slices_IndexFunc_Waiter : LoopsFn Try.prog C_slices_IndexFunc_Waiter O_slices_IndexFunc_Waiter 55 L_slices_IndexFunc_Waiter := LoopsFn.all (by kernel_rfl) (by decide) ⟨lo_slices_IndexFunc_Waiter_l0, trivial⟩
def out_slices_IndexFunc_Waiter (r : Int) : AV × Store := out1 (.one (.dat I)) [] (r, ())
theorem w_slices_IndexFunc_Waiter (x : FAr [.one (.dat (.sl tWaiter)), .fn 56 [.cdat I 0]] []) : evBodyK Try.prog C_slices_IndexFunc_Waiter O_slices_IndexFunc_Waiter L_slices_IndexFunc_Waiter 55 (encAr [.one (.dat (.sl tWaiter)), .fn 56 [.cdat I 0]] [] x).1 (encAr [.one (.dat (.sl tWaiter)), .fn 56 [.cdat I 0]] [] x).2 (fun v s => some (v, s)) =
    slices_IndexFunc_WaiterK x.1 x.2.1 (fun r => some (out_slices_IndexFunc_Waiter r)) := by kernel_rfl
theorem sem_slices_IndexFunc_Waiter : ∀ x y, (fun x => slices_IndexFunc_Waiter x.1 x.2.1) x = some y → SemCall Try.prog 55 (encAr [.one (.dat (.sl tWaiter)), .fn 56 [.cdat I 0]] [] x).1 (encAr [.one (.dat (.sl tWaiter)), .fn 56 [.cdat I 0]] [] x).2 (out_slices_IndexFunc_Waiter y).1 (out_slices_IndexFunc_Waiter y).2 :=
  sem_of folP okP tabP (Oracle.of_ok (Oracle.cons_ok ok_impl_Endpoint_at_c1 Oracle.nil_ok)) lf_slices_IndexFunc_Waiter fun x => (w_slices_IndexFunc_Waiter x).trans (slices_IndexFunc_Waiter_eq x.1 x.2.1 _)
noncomputable def c_slices_IndexFunc_Waiter : Con := Con.shape [.one (.dat (.sl tWaiter)), .fn 56 [.cdat I 0]] [] (fun x => slices_IndexFunc_Waiter x.1 x.2.1) out_slices_IndexFunc_Waiter
theorem ok_slices_IndexFunc_Waiter : ConOk Try.prog 55 c_slices_IndexFunc_Waiter := Con.shape_ok sem_slices_IndexFunc_Waiter

/-! 38 -/
def C_impl_Endpoint_at : Cfg := { T := tab, hint := fun _ => { keepR := [2, 3, 4], res := [4] }, mode := fun _ => .borrow }
noncomputable def O_impl_Endpoint_at : Oracle := Oracle.of [(55, c_slices_IndexFunc_Waiter)]
noncomputable def L_impl_Endpoint_at : Loops := Loops.of []
theorem lf_impl_Endpoint_at : LoopsFn Try.prog C_impl_Endpoint_at O_impl_Endpoint_at 38 L_impl_Endpoint_at := LoopsFn.nil' (by kernel_rfl)
def out_impl_Endpoint_at (r : Int) : AV × Store := out1 (.one (.dat I)) [] (r, ())
theorem w_impl_Endpoint_at (x : FAr [.one (.dat tEndpoint), .one (.dat I)] []) : evBodyK Try.prog C_impl_Endpoint_at O_impl_Endpoint_at L_impl_Endpoint_at 38 (encAr [.one (.dat tEndpoint), .one (.dat I)] [] x).1 (encAr [.one (.dat tEndpoint), .one (.dat I)] [] x).2 (fun v s => some (v, s)) =
    impl_Endpoint_atK x.1 x.2.1 (fun r => some (out_impl_Endpoint_at r)) := by kernel_rfl
theorem sem_impl_Endpoint_at : ∀ x y, (fun x => impl_Endpoint_at x.1 x.2.1) x = some y → SemCall Try.prog 38 (encAr [.one (.dat tEndpoint), .one (.dat I)] [] x).1 (encAr [.one (.dat tEndpoint), .one (.dat I)] [] x).2 (out_impl_Endpoint_at y).1 (out_impl_Endpoint_at y).2 :=
  sem_of folP okP tabP (Oracle.of_ok (Oracle.cons_ok ok_slices_IndexFunc_Waiter Oracle.nil_ok)) lf_impl_Endpoint_at fun x => (w_impl_Endpoint_at x).trans (impl_Endpoint_at_eq x.1 x.2.1 _)
noncomputable def c_impl_Endpoint_at : Con := Con.shape [.one (.dat tEndpoint), .one (.dat I)] [] (fun x => impl_Endpoint_at x.1 x.2.1) out_impl_Endpoint_at
theorem ok_impl_Endpoint_at : ConOk Try.prog 38 c_impl_Endpoint_at := Con.shape_ok sem_impl_Endpoint_at

/-! 16 -/
def C_impl_EndpointValid : Cfg := { T := tab, hint := fun _ => { mu := [4], keepR := [1, 2, 3, 4, 6, 7, 8, 9, 54], res := [2], order := [(4, [(0, .forced), (1, .forced), (2, .forced), (3, .forced), (4, .read), (5, .read), (6, .read), (7, .read), (8, .forced), (9, .forced), (10, .forced), (11, .forced), (12, .forced), (13, .forced), (14, .forced), (15, .read), (16, .read), (17, .read), (18, .read), (19, .forced), (20, .forced), (21, .forced), (22, .forced), (23, .forced), (24, .forced), (25, .forced), (26, .forced), (27, .forced), (28, .forced), (29, .forced), (30, .forced), (31, .forced), (32, .forced), (33, .forced), (34, .forced), (35, .forced), (36, .forced), (37, .forced), (38, .forced), (39, .forced), (40, .forced), (41, .forced)])], keepL := [(0, [1, 6, 7, 8])], keepX := [(0, [1]), (1, [1, 6, 7, 8])] }, mode := fun _ => .borrow }
noncomputable def O_impl_EndpointValid : Oracle := Oracle.of [(37, c_impl_Waiter_may), (38, c_impl_Endpoint_at)]
def sh_impl_EndpointValid_l0 : List (Nat × S2) := [(1, .one (.cdat tEndpoint 0)), (6, .one (.dat (.sl tWaiter))), (7, .one (.dat I)), (8, .one (.dat I))]
def bs_impl_EndpointValid_l0 : List SB := []
noncomputable def lc_impl_EndpointValid_l0 : LCon := LCon.shape sh_impl_EndpointValid_l0 bs_impl_EndpointValid_l0 impl_EndpointValid_l0 (fun a => (.exit 0, encSt [(1, .one (.cdat tEndpoint 0))] [] a)) (fun b => encSt [(2, .one (.dat .bool))] [] b)
noncomputable def L_impl_EndpointValid : Loops := Loops.of [(0, lc_impl_EndpointValid_l0)]
theorem r_impl_EndpointValid_l0 (x : FSt sh_impl_EndpointValid_l0 bs_impl_EndpointValid_l0) : roundK C_impl_EndpointValid.T (C_impl_EndpointValid.hint 16) C_impl_EndpointValid.mode O_impl_EndpointValid L_impl_EndpointValid 0 (lp Try.prog 16 0) (encSt sh_impl_EndpointValid_l0 bs_impl_EndpointValid_l0 x) (fun e s => some (e, s)) =
    impl_EndpointValid_l0K x.1 x.2.1 x.2.2.1 x.2.2.2.1 (fun y => some (Ex.normal, encSt sh_impl_EndpointValid_l0 bs_impl_EndpointValid_l0 y)) (fun a => some (Ex.exit 0, encSt [(1, .one (.cdat tEndpoint 0))] [] a)) (fun b => some (Ex.ret, encSt [(2, .one (.dat .bool))] [] b)) := by kernel_rfl
theorem lo_impl_EndpointValid_l0 : LConOk C_impl_EndpointValid.T (C_impl_EndpointValid.hint 16) C_impl_EndpointValid.mode O_impl_EndpointValid L_impl_EndpointValid 0 (lp Try.prog 16 0) lc_impl_EndpointValid_l0 :=
  LCon.shape_ok (fun a => by simp) fun x => (r_impl_EndpointValid_l0 x).trans (impl_EndpointValid_l0_eq x.1 x.2.1 x.2.2.1 x.2.2.2.1 _ _ _)
theorem lf_impl_EndpointValid : LoopsFn Try.prog C_impl_EndpointValid O_impl_EndpointValid 16 L_impl_EndpointValid := LoopsFn.all (by kernel_rfl) (by decide) ⟨lo_impl_EndpointValid_l0, trivial⟩
def out_impl_EndpointValid (r : Bool) : AV × Store := out1 (.one (.dat .bool)) [] (r, ())
theorem w_impl_EndpointValid (x : FAr [.one (.dat tEndpoint)] []) : evBodyK Try.prog C_impl_EndpointValid O_impl_EndpointValid L_impl_EndpointValid 16 (encAr [.one (.dat tEndpoint)] [] x).1 (encAr [.one (.dat tEndpoint)] [] x).2 (fun v s => some (v, s)) =
    impl_EndpointValidK x.1 (fun r => some (out_impl_EndpointValid r)) := by kernel_rfl
theorem sem_impl_EndpointValid : ∀ x y, (fun x => impl_EndpointValid x.1) x = some y → SemCall Try.prog 16 (encAr [.one (.dat tEndpoint)] [] x).1 (encAr [.one (.dat tEndpoint)] [] x).2 (out_impl_EndpointValid y).1 (out_impl_EndpointValid y).2 :=
  sem_of folP okP tabP (Oracle.of_ok (Oracle.cons_ok ok_impl_Waiter_may (Oracle.cons_ok ok_impl_Endpoint_at Oracle.nil_ok))) lf_impl_EndpointValid fun x => (w_impl_EndpointValid x).trans (impl_EndpointValid_eq x.1 _)
noncomputable def c_impl_EndpointValid : Con := Con.shape [.one (.dat tEndpoint)] [] (fun x => impl_EndpointValid x.1) out_impl_EndpointValid
theorem ok_impl_EndpointValid : ConOk Try.prog 16 c_impl_EndpointValid := Con.shape_ok sem_impl_EndpointValid

/-! 31 -/
def C_laws_eqWaiter : Cfg := { T := tab, hint := fun _ => { keepR := [2, 3, 4, 9, 14, 19, 24], res := [4] }, mode := fun _ => .borrow }
noncomputable def O_laws_eqWaiter : Oracle := Oracle.of []
noncomputable def L_laws_eqWaiter : Loops := Loops.of []
theorem lf_laws_eqWaiter : LoopsFn Try.prog C_laws_eqWaiter O_laws_eqWaiter 31 L_laws_eqWaiter := LoopsFn.nil' (by kernel_rfl)
def out_laws_eqWaiter (r : Bool) : AV × Store := out1 (.one (.dat .bool)) [] (r, ())
theorem w_laws_eqWaiter (x : FAr [.one (.dat tWaiter), .one (.dat tWaiter)] []) : evBodyK Try.prog C_laws_eqWaiter O_laws_eqWaiter L_laws_eqWaiter 31 (encAr [.one (.dat tWaiter), .one (.dat tWaiter)] [] x).1 (encAr [.one (.dat tWaiter), .one (.dat tWaiter)] [] x).2 (fun v s => some (v, s)) =
    laws_eqWaiterK x.1 x.2.1 (fun r => some (out_laws_eqWaiter r)) := by kernel_rfl
theorem sem_laws_eqWaiter : ∀ x y, (fun x => laws_eqWaiter x.1 x.2.1) x = some y → SemCall Try.prog 31 (encAr [.one (.dat tWaiter), .one (.dat tWaiter)] [] x).1 (encAr [.one (.dat tWaiter), .one (.dat tWaiter)] [] x).2 (out_laws_eqWaiter y).1 (out_laws_eqWaiter y).2 :=
  sem_of folP okP tabP (Oracle.of_ok Oracle.nil_ok) lf_laws_eqWaiter fun x => (w_laws_eqWaiter x).trans (laws_eqWaiter_eq x.1 x.2.1 _)
noncomputable def c_laws_eqWaiter : Con := Con.shape [.one (.dat tWaiter), .one (.dat tWaiter)] [] (fun x => laws_eqWaiter x.1 x.2.1) out_laws_eqWaiter
theorem ok_laws_eqWaiter : ConOk Try.prog 31 c_laws_eqWaiter := Con.shape_ok sem_laws_eqWaiter

/-! 39 -/
def C_laws_eqWaiterS : Cfg := { T := tab, hint := fun _ => { keepR := [0, 1, 4, 5, 10, 14, 26], res := [4], order := [(6, [(0, .read), (1, .read), (2, .read), (3, .read), (4, .read), (5, .forced), (6, .forced), (7, .forced), (8, .forced), (9, .forced)])], keepL := [(0, [0, 1, 5])], keepX := [(0, []), (1, [0, 1, 5])] }, mode := fun _ => .borrow }
noncomputable def O_laws_eqWaiterS : Oracle := Oracle.of [(31, c_laws_eqWaiter)]
def sh_laws_eqWaiterS_l0 : List (Nat × S2) := [(0, .one (.dat (.sl tWaiter))), (1, .one (.dat (.sl tWaiter))), (5, .one (.dat I))]
def bs_laws_eqWaiterS_l0 : List SB := []
noncomputable def lc_laws_eqWaiterS_l0 : LCon := LCon.shape sh_laws_eqWaiterS_l0 bs_laws_eqWaiterS_l0 laws_eqWaiterS_l0 (fun a => (.exit 0, encSt [] [] a)) (fun b => encSt [(4, .one (.dat .bool))] [] b)
noncomputable def L_laws_eqWaiterS : Loops := Loops.of [(0, lc_laws_eqWaiterS_l0)]
theorem r_laws_eqWaiterS_l0 (x : FSt sh_laws_eqWaiterS_l0 bs_laws_eqWaiterS_l0) : roundK C_laws_eqWaiterS.T (C_laws_eqWaiterS.hint 39) C_laws_eqWaiterS.mode O_laws_eqWaiterS L_laws_eqWaiterS 0 (lp Try.prog 39 0) (encSt sh_laws_eqWaiterS_l0 bs_laws_eqWaiterS_l0 x) (fun e s => some (e, s)) =
    laws_eqWaiterS_l0K x.1 x.2.1 x.2.2.1 (fun y => some (Ex.normal, encSt sh_laws_eqWaiterS_l0 bs_laws_eqWaiterS_l0 y)) (fun a => some (Ex.exit 0, encSt [] [] a)) (fun b => some (Ex.ret, encSt [(4, .one (.dat .bool))] [] b)) := by kernel_rfl
theorem lo_laws_eqWaiterS_l0 : LConOk C_laws_eqWaiterS.T (C_laws_eqWaiterS.hint 39) C_laws_eqWaiterS.mode O_laws_eqWaiterS L_laws_eqWaiterS 0 (lp Try.prog 39 0) lc_laws_eqWaiterS_l0 :=
  LCon.shape_ok (fun a => by simp) fun x => (r_laws_eqWaiterS_l0 x).trans (laws_eqWaiterS_l0_eq x.1 x.2.1 x.2.2.1 _ _ _)
theorem lf_laws_eqWaiterS : LoopsFn Try.prog C_laws_eqWaiterS O_laws_eqWaiterS 39 L_laws_eqWaiterS := LoopsFn.all (by kernel_rfl) (by decide) ⟨lo_laws_eqWaiterS_l0, trivial⟩
def out_laws_eqWaiterS (r : Bool) : AV × Store := out1 (.one (.dat .bool)) [] (r, ())
theorem w_laws_eqWaiterS (x : FAr [.one (.dat (.sl tWaiter)), .one (.dat (.sl tWaiter))] []) : evBodyK Try.prog C_laws_eqWaiterS O_laws_eqWaiterS L_laws_eqWaiterS 39 (encAr [.one (.dat (.sl tWaiter)), .one (.dat (.sl tWaiter))] [] x).1 (encAr [.one (.dat (.sl tWaiter)), .one (.dat (.sl tWaiter))] [] x).2 (fun v s => some (v, s)) =
    laws_eqWaiterSK x.1 x.2.1 (fun r => some (out_laws_eqWaiterS r)) := by kernel_rfl
theorem sem_laws_eqWaiterS : ∀ x y, (fun x => laws_eqWaiterS x.1 x.2.1) x = some y → SemCall Try.prog 39 (encAr [.one (.dat (.sl tWaiter)), .one (.dat (.sl tWaiter))] [] x).1 (encAr [.one (.dat (.sl tWaiter)), .one (.dat (.sl tWaiter))] [] x).2 (out_laws_eqWaiterS y).1 (out_laws_eqWaiterS y).2 :=
  sem_of folP okP tabP (Oracle.of_ok (Oracle.cons_ok ok_laws_eqWaiter Oracle.nil_ok)) lf_laws_eqWaiterS fun x => (w_laws_eqWaiterS x).trans (laws_eqWaiterS_eq x.1 x.2.1 _)
noncomputable def c_laws_eqWaiterS : Con := Con.shape [.one (.dat (.sl tWaiter)), .one (.dat (.sl tWaiter))] [] (fun x => laws_eqWaiterS x.1 x.2.1) out_laws_eqWaiterS
theorem ok_laws_eqWaiterS : ConOk Try.prog 39 c_laws_eqWaiterS := Con.shape_ok sem_laws_eqWaiterS

/-! 17 -/
def C_laws_eqEndpoint : Cfg := { T := tab, hint := fun _ => { keepR := [2, 3, 4, 9, 15], res := [4] }, mode := fun _ => .borrow }
noncomputable def O_laws_eqEndpoint : Oracle := Oracle.of [(39, c_laws_eqWaiterS)]
noncomputable def L_laws_eqEndpoint : Loops := Loops.of []
theorem lf_laws_eqEndpoint : LoopsFn Try.prog C_laws_eqEndpoint O_laws_eqEndpoint 17 L_laws_eqEndpoint := LoopsFn.nil' (by kernel_rfl)
def out_laws_eqEndpoint (r : Bool) : AV × Store := out1 (.one (.dat .bool)) [] (r, ())
theorem w_laws_eqEndpoint (x : FAr [.one (.dat tEndpoint), .one (.dat tEndpoint)] []) : evBodyK Try.prog C_laws_eqEndpoint O_laws_eqEndpoint L_laws_eqEndpoint 17 (encAr [.one (.dat tEndpoint), .one (.dat tEndpoint)] [] x).1 (encAr [.one (.dat tEndpoint), .one (.dat tEndpoint)] [] x).2 (fun v s => some (v, s)) =
    laws_eqEndpointK x.1 x.2.1 (fun r => some (out_laws_eqEndpoint r)) := by kernel_rfl
theorem sem_laws_eqEndpoint : ∀ x y, (fun x => laws_eqEndpoint x.1 x.2.1) x = some y → SemCall Try.prog 17 (encAr [.one (.dat tEndpoint), .one (.dat tEndpoint)] [] x).1 (encAr [.one (.dat tEndpoint), .one (.dat tEndpoint)] [] x).2 (out_laws_eqEndpoint y).1 (out_laws_eqEndpoint y).2 :=
  sem_of folP okP tabP (Oracle.of_ok (Oracle.cons_ok ok_laws_eqWaiterS Oracle.nil_ok)) lf_laws_eqEndpoint fun x => (w_laws_eqEndpoint x).trans (laws_eqEndpoint_eq x.1 x.2.1 _)
noncomputable def c_laws_eqEndpoint : Con := Con.shape [.one (.dat tEndpoint), .one (.dat tEndpoint)] [] (fun x => laws_eqEndpoint x.1 x.2.1) out_laws_eqEndpoint
theorem ok_laws_eqEndpoint : ConOk Try.prog 17 c_laws_eqEndpoint := Con.shape_ok sem_laws_eqEndpoint

/-! 3 -/
def C_laws_FnExactEndpointValid : Cfg := { T := tab, hint := fun _ => { mu := [5], keepR := [1, 2, 3, 4, 5, 6, 11, 21, 26], res := [2], order := [(10, [(0, .read), (1, .forced), (2, .forced), (3, .forced), (4, .forced)])] }, mode := fun _ => .borrow }
noncomputable def O_laws_FnExactEndpointValid : Oracle := Oracle.of [(13, c_laws_szEndpoint), (14, c_spec_EndpointValid), (15, c_laws_toEndpoint), (16, c_impl_EndpointValid), (17, c_laws_eqEndpoint)]
noncomputable def L_laws_FnExactEndpointValid : Loops := Loops.of []
theorem lf_laws_FnExactEndpointValid : LoopsFn Try.prog C_laws_FnExactEndpointValid O_laws_FnExactEndpointValid 3 L_laws_FnExactEndpointValid := LoopsFn.nil' (by kernel_rfl)
def out_laws_FnExactEndpointValid (r : Bool) : AV × Store := out1 (.one (.dat .bool)) [] (r, ())
theorem w_laws_FnExactEndpointValid (x : FAr [.one (.dat tEndpoint)] []) : evBodyK Try.prog C_laws_FnExactEndpointValid O_laws_FnExactEndpointValid L_laws_FnExactEndpointValid 3 (encAr [.one (.dat tEndpoint)] [] x).1 (encAr [.one (.dat tEndpoint)] [] x).2 (fun v s => some (v, s)) =
    laws_FnExactEndpointValidK x.1 (fun r => some (out_laws_FnExactEndpointValid r)) := by kernel_rfl
theorem sem_laws_FnExactEndpointValid : ∀ x y, (fun x => laws_FnExactEndpointValid x.1) x = some y → SemCall Try.prog 3 (encAr [.one (.dat tEndpoint)] [] x).1 (encAr [.one (.dat tEndpoint)] [] x).2 (out_laws_FnExactEndpointValid y).1 (out_laws_FnExactEndpointValid y).2 :=
  sem_of folP okP tabP (Oracle.of_ok (Oracle.cons_ok ok_laws_szEndpoint (Oracle.cons_ok ok_spec_EndpointValid (Oracle.cons_ok ok_laws_toEndpoint (Oracle.cons_ok ok_impl_EndpointValid (Oracle.cons_ok ok_laws_eqEndpoint Oracle.nil_ok)))))) lf_laws_FnExactEndpointValid fun x => (w_laws_FnExactEndpointValid x).trans (laws_FnExactEndpointValid_eq x.1 _)
noncomputable def c_laws_FnExactEndpointValid : Con := Con.shape [.one (.dat tEndpoint)] [] (fun x => laws_FnExactEndpointValid x.1) out_laws_FnExactEndpointValid
theorem ok_laws_FnExactEndpointValid : ConOk Try.prog 3 c_laws_FnExactEndpointValid := Con.shape_ok sem_laws_FnExactEndpointValid

/-! 41 -/
def C_spec_l20Open : Cfg := { T := tab, hint := fun _ => { mu := [10], keepR := [0, 2, 5], res := [2] }, mode := fun _ => .borrow }
noncomputable def O_spec_l20Open : Oracle := Oracle.of []
noncomputable def L_spec_l20Open : Loops := Loops.of []
theorem lf_spec_l20Open : LoopsFn Try.prog C_spec_l20Open O_spec_l20Open 41 L_spec_l20Open := LoopsFn.nil' (by kernel_rfl)
def out_spec_l20Open (r : Dl20Rd) : AV × Store := out1 (.one (.ptr 0 0 0)) [.one tl20Rd] (r, ())
theorem w_spec_l20Open (x : FAr [.one (.dat (.sl (.int .u8)))] []) : evBodyK Try.prog C_spec_l20Open O_spec_l20Open L_spec_l20Open 41 (encAr [.one (.dat (.sl (.int .u8)))] [] x).1 (encAr [.one (.dat (.sl (.int .u8)))] [] x).2 (fun v s => some (v, s)) =
    spec_l20OpenK x.1 (fun r => some (out_spec_l20Open r)) := by kernel_rfl
theorem sem_spec_l20Open : ∀ x y, (fun x => spec_l20Open x.1) x = some y → SemCall Try.prog 41 (encAr [.one (.dat (.sl (.int .u8)))] [] x).1 (encAr [.one (.dat (.sl (.int .u8)))] [] x).2 (out_spec_l20Open y).1 (out_spec_l20Open y).2 :=
  sem_of folP okP tabP (Oracle.of_ok Oracle.nil_ok) lf_spec_l20Open fun x => (w_spec_l20Open x).trans (spec_l20Open_eq x.1 _)
noncomputable def c_spec_l20Open : Con := Con.shape [.one (.dat (.sl (.int .u8)))] [] (fun x => spec_l20Open x.1) out_spec_l20Open
theorem ok_spec_l20Open : ConOk Try.prog 41 c_spec_l20Open := Con.shape_ok sem_spec_l20Open

/-! 47 -/
def C_spec_l20Rd_pick : Cfg := { T := tab, hint := fun _ => { keepR := [0, 1, 4, 5, 6, 24, 36], res := [4], base := 1, order := [(7, [(0, .read), (1, .read), (2, .read), (3, .read), (4, .read), (5, .read), (6, .read), (7, .read), (8, .read), (9, .read), (10, .read), (11, .read), (12, .read), (13, .read), (14, .read), (15, .read), (16, .read), (17, .read), (18, .read), (19, .read), (20, .read), (21, .read), (22, .read), (23, .read), (24, .read), (25, .read), (26, .read), (27, .read), (28, .read), (29, .read), (30, .read), (31, .read), (32, .read), (33, .read), (34, .read), (35, .read), (36, .read), (37, .forced), (38, .forced), (39, .forced), (40, .forced), (41, .forced), (42, .forced), (43, .forced), (44, .forced), (45, .forced)])] }, mode := fun _ => .borrow }
noncomputable def O_spec_l20Rd_pick : Oracle := Oracle.of []
noncomputable def L_spec_l20Rd_pick : Loops := Loops.of []
theorem lf_spec_l20Rd_pick : LoopsFn Try.prog C_spec_l20Rd_pick O_spec_l20Rd_pick 47 L_spec_l20Rd_pick := LoopsFn.nil' (by kernel_rfl)
def out_spec_l20Rd_pick (r : Int × Dl20Rd) : AV × Store := out1 (.one (.dat I)) [.one tl20Rd] (r.1, r.2, ())
theorem w_spec_l20Rd_pick (x : FAr [.one (.ptr 0 0 0), .one (.dat I)] [.one tl20Rd]) : evBodyK Try.prog C_spec_l20Rd_pick O_spec_l20Rd_pick L_spec_l20Rd_pick 47 (encAr [.one (.ptr 0 0 0), .one (.dat I)] [.one tl20Rd] x).1 (encAr [.one (.ptr 0 0 0), .one (.dat I)] [.one tl20Rd] x).2 (fun v s => some (v, s)) =
    spec_l20Rd_pickK x.1 x.2.1 (fun r => some (out_spec_l20Rd_pick r)) := by kernel_rfl
theorem sem_spec_l20Rd_pick : ∀ x y, (fun x => spec_l20Rd_pick x.1 x.2.1) x = some y → SemCall Try.prog 47 (encAr [.one (.ptr 0 0 0), .one (.dat I)] [.one tl20Rd] x).1 (encAr [.one (.ptr 0 0 0), .one (.dat I)] [.one tl20Rd] x).2 (out_spec_l20Rd_pick y).1 (out_spec_l20Rd_pick y).2 :=
  sem_of folP okP tabP (Oracle.of_ok Oracle.nil_ok) lf_spec_l20Rd_pick fun x => (w_spec_l20Rd_pick x).trans (spec_l20Rd_pick_eq x.1 x.2.1 _)
noncomputable def c_spec_l20Rd_pick : Con := Con.shape [.one (.ptr 0 0 0), .one (.dat I)] [.one tl20Rd] (fun x => spec_l20Rd_pick x.1 x.2.1) out_spec_l20Rd_pick
theorem ok_spec_l20Rd_pick : ConOk Try.prog 47 c_spec_l20Rd_pick := Con.shape_ok sem_spec_l20Rd_pick

/-! 58 -/
def C_spec_l20Rd_odd : Cfg := { T := tab, hint := fun _ => { keepR := [0, 1, 4], res := [4], base := 1 }, mode := modeOf [(47, .sub)] }
noncomputable def O_spec_l20Rd_odd : Oracle := Oracle.of [(47, c_spec_l20Rd_pick)]
noncomputable def L_spec_l20Rd_odd : Loops := Loops.of []
theorem lf_spec_l20Rd_odd : LoopsFn Try.prog C_spec_l20Rd_odd O_spec_l20Rd_odd 58 L_spec_l20Rd_odd := LoopsFn.nil' (by kernel_rfl)
def out_spec_l20Rd_odd (r : Bool × Dl20Rd) : AV × Store := out1 (.one (.dat .bool)) [.one tl20Rd] (r.1, r.2, ())
theorem w_spec_l20Rd_odd (x : FAr [.one (.ptr 0 0 0), .one (.dat I)] [.one tl20Rd]) : evBodyK Try.prog C_spec_l20Rd_odd O_spec_l20Rd_odd L_spec_l20Rd_odd 58 (encAr [.one (.ptr 0 0 0), .one (.dat I)] [.one tl20Rd] x).1 (encAr [.one (.ptr 0 0 0), .one (.dat I)] [.one tl20Rd] x).2 (fun v s => some (v, s)) =
    spec_l20Rd_oddK x.1 x.2.1 (fun r => some (out_spec_l20Rd_odd r)) := by kernel_rfl
theorem sem_spec_l20Rd_odd : ∀ x y, (fun x => spec_l20Rd_odd x.1 x.2.1) x = some y → SemCall Try.prog 58 (encAr [.one (.ptr 0 0 0), .one (.dat I)] [.one tl20Rd] x).1 (encAr [.one (.ptr 0 0 0), .one (.dat I)] [.one tl20Rd] x).2 (out_spec_l20Rd_odd y).1 (out_spec_l20Rd_odd y).2 :=
  sem_of folP okP tabP (Oracle.of_ok (Oracle.cons_ok ok_spec_l20Rd_pick Oracle.nil_ok)) lf_spec_l20Rd_odd fun x => (w_spec_l20Rd_odd x).trans (spec_l20Rd_odd_eq x.1 x.2.1 _)
noncomputable def c_spec_l20Rd_odd : Con := Con.shape [.one (.ptr 0 0 0), .one (.dat I)] [.one tl20Rd] (fun x => spec_l20Rd_odd x.1 x.2.1) out_spec_l20Rd_odd
theorem ok_spec_l20Rd_odd : ConOk Try.prog 58 c_spec_l20Rd_odd := Con.shape_ok sem_spec_l20Rd_odd

/-! 51 -/
def C_spec_l20Waiter : Cfg := { T := tab, hint := fun _ => { mu := [4, 5], keepR := [0, 1, 4, 5, 17, 19, 26, 34], res := [4], base := 1, keepX := [(0, [4, 5])] }, mode := modeOf [(47, .sub), (58, .sub)] }
noncomputable def O_spec_l20Waiter : Oracle := Oracle.of [(47, c_spec_l20Rd_pick), (58, c_spec_l20Rd_odd)]
noncomputable def L_spec_l20Waiter : Loops := Loops.of []
theorem lf_spec_l20Waiter : LoopsFn Try.prog C_spec_l20Waiter O_spec_l20Waiter 51 L_spec_l20Waiter := LoopsFn.nil' (by kernel_rfl)
def out_spec_l20Waiter (r : DWaiter × Dl20Rd) : AV × Store := out1 (.one (.dat tWaiter)) [.one tl20Rd] (r.1, r.2, ())
theorem w_spec_l20Waiter (x : FAr [.one (.ptr 0 0 0), .one (.dat I)] [.one tl20Rd]) : evBodyK Try.prog C_spec_l20Waiter O_spec_l20Waiter L_spec_l20Waiter 51 (encAr [.one (.ptr 0 0 0), .one (.dat I)] [.one tl20Rd] x).1 (encAr [.one (.ptr 0 0 0), .one (.dat I)] [.one tl20Rd] x).2 (fun v s => some (v, s)) =
    spec_l20WaiterK x.1 x.2.1 (fun r => some (out_spec_l20Waiter r)) := by kernel_rfl
theorem sem_spec_l20Waiter : ∀ x y, (fun x => spec_l20Waiter x.1 x.2.1) x = some y → SemCall Try.prog 51 (encAr [.one (.ptr 0 0 0), .one (.dat I)] [.one tl20Rd] x).1 (encAr [.one (.ptr 0 0 0), .one (.dat I)] [.one tl20Rd] x).2 (out_spec_l20Waiter y).1 (out_spec_l20Waiter y).2 :=
  sem_of folP okP tabP (Oracle.of_ok (Oracle.cons_ok ok_spec_l20Rd_pick (Oracle.cons_ok ok_spec_l20Rd_odd Oracle.nil_ok))) lf_spec_l20Waiter fun x => (w_spec_l20Waiter x).trans (spec_l20Waiter_eq x.1 x.2.1 _)
noncomputable def c_spec_l20Waiter : Con := Con.shape [.one (.ptr 0 0 0), .one (.dat I)] [.one tl20Rd] (fun x => spec_l20Waiter x.1 x.2.1) out_spec_l20Waiter
theorem ok_spec_l20Waiter : ConOk Try.prog 51 c_spec_l20Waiter := Con.shape_ok sem_spec_l20Waiter

/-! 57 -/
def C_spec_l10Has : Cfg := { T := tab, hint := fun _ => { keepR := [1, 2, 4, 5, 10, 20], res := [4], keepL := [(0, [1, 2, 5])], keepX := [(0, []), (1, [1, 2, 5])] }, mode := fun _ => .borrow }
noncomputable def O_spec_l10Has : Oracle := Oracle.of []
def sh_spec_l10Has_l0 : List (Nat × S2) := [(1, .one (.dat I)), (2, .one (.cdat tEndpoint 0)), (5, .one (.dat I))]
def bs_spec_l10Has_l0 : List SB := []
noncomputable def lc_spec_l10Has_l0 : LCon := LCon.shape sh_spec_l10Has_l0 bs_spec_l10Has_l0 spec_l10Has_l0 (fun a => (.exit 0, encSt [] [] a)) (fun b => encSt [(4, .one (.dat .bool))] [] b)
noncomputable def L_spec_l10Has : Loops := Loops.of [(0, lc_spec_l10Has_l0)]
theorem r_spec_l10Has_l0 (x : FSt sh_spec_l10Has_l0 bs_spec_l10Has_l0) : roundK C_spec_l10Has.T (C_spec_l10Has.hint 57) C_spec_l10Has.mode O_spec_l10Has L_spec_l10Has 0 (lp Try.prog 57 0) (encSt sh_spec_l10Has_l0 bs_spec_l10Has_l0 x) (fun e s => some (e, s)) =
    spec_l10Has_l0K x.1 x.2.1 x.2.2.1 (fun y => some (Ex.normal, encSt sh_spec_l10Has_l0 bs_spec_l10Has_l0 y)) (fun a => some (Ex.exit 0, encSt [] [] a)) (fun b => some (Ex.ret, encSt [(4, .one (.dat .bool))] [] b)) := by kernel_rfl
theorem lo_spec_l10Has_l0 : LConOk C_spec_l10Has.T (C_spec_l10Has.hint 57) C_spec_l10Has.mode O_spec_l10Has L_spec_l10Has 0 (lp Try.prog 57 0) lc_spec_l10Has_l0 :=
  LCon.shape_ok (fun a => by simp) fun x => (r_spec_l10Has_l0 x).trans (spec_l10Has_l0_eq x.1 x.2.1 x.2.2.1 _ _ _)
theorem lf_spec_l10Has : LoopsFn Try.prog C_spec_l10Has O_spec_l10Has 57 L_spec_l10Has := LoopsFn.all (by kernel_rfl) (by decide) ⟨lo_spec_l10Has_l0, trivial⟩
def out_spec_l10Has (r : Bool) : AV × Store := out1 (.one (.dat .bool)) [] (r, ())
theorem w_spec_l10Has (x : FAr [.one (.dat tEndpoint), .one (.dat I)] []) : evBodyK Try.prog C_spec_l10Has O_spec_l10Has L_spec_l10Has 57 (encAr [.one (.dat tEndpoint), .one (.dat I)] [] x).1 (encAr [.one (.dat tEndpoint), .one (.dat I)] [] x).2 (fun v s => some (v, s)) =
    spec_l10HasK x.1 x.2.1 (fun r => some (out_spec_l10Has r)) := by kernel_rfl
theorem sem_spec_l10Has : ∀ x y, (fun x => spec_l10Has x.1 x.2.1) x = some y → SemCall Try.prog 57 (encAr [.one (.dat tEndpoint), .one (.dat I)] [] x).1 (encAr [.one (.dat tEndpoint), .one (.dat I)] [] x).2 (out_spec_l10Has y).1 (out_spec_l10Has y).2 :=
  sem_of folP okP tabP (Oracle.of_ok Oracle.nil_ok) lf_spec_l10Has fun x => (w_spec_l10Has x).trans (spec_l10Has_eq x.1 x.2.1 _)
noncomputable def c_spec_l10Has : Con := Con.shape [.one (.dat tEndpoint), .one (.dat I)] [] (fun x => spec_l10Has x.1 x.2.1) out_spec_l10Has
theorem ok_spec_l10Has : ConOk Try.prog 57 c_spec_l10Has := Con.shape_ok sem_spec_l10Has

/-! 48 -/
def C_spec_l10Waiter : Cfg := { T := tab, hint := fun _ => { keepR := [2, 3, 4], res := [4] }, mode := fun _ => .borrow }
noncomputable def O_spec_l10Waiter : Oracle := Oracle.of [(14, c_spec_EndpointValid), (35, c_spec_l1In), (57, c_spec_l10Has)]
noncomputable def L_spec_l10Waiter : Loops := Loops.of []
theorem lf_spec_l10Waiter : LoopsFn Try.prog C_spec_l10Waiter O_spec_l10Waiter 48 L_spec_l10Waiter := LoopsFn.nil' (by kernel_rfl)
def out_spec_l10Waiter (r : Bool) : AV × Store := out1 (.one (.dat .bool)) [] (r, ())
theorem w_spec_l10Waiter (x : FAr [.one (.dat tEndpoint), .one (.dat tWaiter)] []) : evBodyK Try.prog C_spec_l10Waiter O_spec_l10Waiter L_spec_l10Waiter 48 (encAr [.one (.dat tEndpoint), .one (.dat tWaiter)] [] x).1 (encAr [.one (.dat tEndpoint), .one (.dat tWaiter)] [] x).2 (fun v s => some (v, s)) =
    spec_l10WaiterK x.1 x.2.1 (fun r => some (out_spec_l10Waiter r)) := by kernel_rfl
theorem sem_spec_l10Waiter : ∀ x y, (fun x => spec_l10Waiter x.1 x.2.1) x = some y → SemCall Try.prog 48 (encAr [.one (.dat tEndpoint), .one (.dat tWaiter)] [] x).1 (encAr [.one (.dat tEndpoint), .one (.dat tWaiter)] [] x).2 (out_spec_l10Waiter y).1 (out_spec_l10Waiter y).2 :=
  sem_of folP okP tabP (Oracle.of_ok (Oracle.cons_ok ok_spec_EndpointValid (Oracle.cons_ok ok_spec_l1In (Oracle.cons_ok ok_spec_l10Has Oracle.nil_ok)))) lf_spec_l10Waiter fun x => (w_spec_l10Waiter x).trans (spec_l10Waiter_eq x.1 x.2.1 _)
noncomputable def c_spec_l10Waiter : Con := Con.shape [.one (.dat tEndpoint), .one (.dat tWaiter)] [] (fun x => spec_l10Waiter x.1 x.2.1) out_spec_l10Waiter
theorem ok_spec_l10Waiter : ConOk Try.prog 48 c_spec_l10Waiter := Con.shape_ok sem_spec_l10Waiter

/-! 49 -/
def C_spec_l10Queue : Cfg := { T := tab, hint := fun _ => { mu := [33, 36, 38], keepR := [0, 3, 4, 5, 6, 21], res := [4], order := [(2, [(0, .forced), (1, .forced), (2, .forced), (3, .read), (4, .read), (5, .read), (6, .read), (7, .read), (8, .read), (9, .forced), (10, .forced), (11, .forced), (12, .forced)]), (5, [(0, .read), (1, .read), (2, .read), (3, .read), (5, .pure), (6, .pure), (8, .pure), (4, .forced), (7, .forced), (9, .forced), (10, .forced)])], keepL := [(0, [0, 3, 5])], keepX := [(0, [0, 3, 5]), (1, [0, 3, 5])] }, mode := fun _ => .borrow }
noncomputable def O_spec_l10Queue : Oracle := Oracle.of []
def sh_spec_l10Queue_l0 : List (Nat × S2) := [(0, .one (.dat (.sl tWaiter))), (3, .one (.cdat tWaiter 0)), (5, .one (.dat I))]
def bs_spec_l10Queue_l0 : List SB := []
noncomputable def lc_spec_l10Queue_l0 : LCon := LCon.shape1 sh_spec_l10Queue_l0 bs_spec_l10Queue_l0 spec_l10Queue_l0 (fun a => (.exit 0, encSt [(0, .one (.dat (.sl tWaiter))), (3, .one (.cdat tWaiter 0)), (5, .one (.dat I))] [] a))
noncomputable def L_spec_l10Queue : Loops := Loops.of [(0, lc_spec_l10Queue_l0)]
theorem r_spec_l10Queue_l0 (x : FSt sh_spec_l10Queue_l0 bs_spec_l10Queue_l0) : roundK C_spec_l10Queue.T (C_spec_l10Queue.hint 49) C_spec_l10Queue.mode O_spec_l10Queue L_spec_l10Queue 0 (lp Try.prog 49 0) (encSt sh_spec_l10Queue_l0 bs_spec_l10Queue_l0 x) (fun e s => some (e, s)) =
    spec_l10Queue_l0K x.1 x.2.1 x.2.2.1 (fun y => some (Ex.normal, encSt sh_spec_l10Queue_l0 bs_spec_l10Queue_l0 y)) (fun a => some (Ex.exit 0, encSt [(0, .one (.dat (.sl tWaiter))), (3, .one (.cdat tWaiter 0)), (5, .one (.dat I))] [] a)) := by kernel_rfl
theorem lo_spec_l10Queue_l0 : LConOk C_spec_l10Queue.T (C_spec_l10Queue.hint 49) C_spec_l10Queue.mode O_spec_l10Queue L_spec_l10Queue 0 (lp Try.prog 49 0) lc_spec_l10Queue_l0 :=
  LCon.shape1_ok (fun a => by simp) fun x => (r_spec_l10Queue_l0 x).trans (spec_l10Queue_l0_eq x.1 x.2.1 x.2.2.1 _ _)
theorem lf_spec_l10Queue : LoopsFn Try.prog C_spec_l10Queue O_spec_l10Queue 49 L_spec_l10Queue := LoopsFn.all (by kernel_rfl) (by decide) ⟨lo_spec_l10Queue_l0, trivial⟩
def out_spec_l10Queue (r : (List DWaiter)) : AV × Store := out1 (.one (.all 0)) [.data tWaiter] (r, ())
theorem w_spec_l10Queue (x : FAr [.one (.dat (.sl tWaiter)), .one (.dat tWaiter)] []) : evBodyK Try.prog C_spec_l10Queue O_spec_l10Queue L_spec_l10Queue 49 (encAr [.one (.dat (.sl tWaiter)), .one (.dat tWaiter)] [] x).1 (encAr [.one (.dat (.sl tWaiter)), .one (.dat tWaiter)] [] x).2 (fun v s => some (v, s)) =
    spec_l10QueueK x.1 x.2.1 (fun r => some (out_spec_l10Queue r)) := by kernel_rfl
theorem sem_spec_l10Queue : ∀ x y, (fun x => spec_l10Queue x.1 x.2.1) x = some y → SemCall Try.prog 49 (encAr [.one (.dat (.sl tWaiter)), .one (.dat tWaiter)] [] x).1 (encAr [.one (.dat (.sl tWaiter)), .one (.dat tWaiter)] [] x).2 (out_spec_l10Queue y).1 (out_spec_l10Queue y).2 :=
  sem_of folP okP tabP (Oracle.of_ok Oracle.nil_ok) lf_spec_l10Queue fun x => (w_spec_l10Queue x).trans (spec_l10Queue_eq x.1 x.2.1 _)
noncomputable def c_spec_l10Queue : Con := Con.shape [.one (.dat (.sl tWaiter)), .one (.dat tWaiter)] [] (fun x => spec_l10Queue x.1 x.2.1) out_spec_l10Queue
theorem ok_spec_l10Queue : ConOk Try.prog 49 c_spec_l10Queue := Con.shape_ok sem_spec_l10Queue

/-! 26 -/
def C_spec_EndpointSend : Cfg := { T := tab, hint := fun _ => { mu := [4, 24, 34], keepR := [2, 3, 4, 5, 9, 19], res := [4, 5], order := [(4, [(0, .read), (1, .read), (2, .read), (3, .read), (6, .pure), (7, .pure), (8, .pure), (9, .pure), (10, .pure), (4, .forced), (5, .forced), (11, .forced), (12, .forced)])], fillR := true }, mode := fun _ => .borrow }
noncomputable def O_spec_EndpointSend : Oracle := Oracle.of [(48, c_spec_l10Waiter), (49, c_spec_l10Queue)]
noncomputable def L_spec_EndpointSend : Loops := Loops.of []
theorem lf_spec_EndpointSend : LoopsFn Try.prog C_spec_EndpointSend O_spec_EndpointSend 26 L_spec_EndpointSend := LoopsFn.nil' (by kernel_rfl)
def out_spec_EndpointSend (r : Bool × Int × (List DWaiter)) : AV × Store := outT [.agg [.dat .bool, .all 0], .one (.dat I)] [.data tWaiter] (r.1, r.2.1, r.2.2, ())
theorem w_spec_EndpointSend (x : FAr [.one (.dat tEndpoint), .one (.dat tWaiter)] []) : evBodyK Try.prog C_spec_EndpointSend O_spec_EndpointSend L_spec_EndpointSend 26 (encAr [.one (.dat tEndpoint), .one (.dat tWaiter)] [] x).1 (encAr [.one (.dat tEndpoint), .one (.dat tWaiter)] [] x).2 (fun v s => some (v, s)) =
    spec_EndpointSendK x.1 x.2.1 (fun r => some (out_spec_EndpointSend r)) := by kernel_rfl
theorem sem_spec_EndpointSend : ∀ x y, (fun x => spec_EndpointSend x.1 x.2.1) x = some y → SemCall Try.prog 26 (encAr [.one (.dat tEndpoint), .one (.dat tWaiter)] [] x).1 (encAr [.one (.dat tEndpoint), .one (.dat tWaiter)] [] x).2 (out_spec_EndpointSend y).1 (out_spec_EndpointSend y).2 :=
  sem_of folP okP tabP (Oracle.of_ok (Oracle.cons_ok ok_spec_l10Waiter (Oracle.cons_ok ok_spec_l10Queue Oracle.nil_ok))) lf_spec_EndpointSend fun x => (w_spec_EndpointSend x).trans (spec_EndpointSend_eq x.1 x.2.1 _)
noncomputable def c_spec_EndpointSend : Con := Con.shape [.one (.dat tEndpoint), .one (.dat tWaiter)] [] (fun x => spec_EndpointSend x.1 x.2.1) out_spec_EndpointSend
theorem ok_spec_EndpointSend : ConOk Try.prog 26 c_spec_EndpointSend := Con.shape_ok sem_spec_EndpointSend

/-! 29 -/
def C_spec_EndpointTake : Cfg := { T := tab, hint := fun _ => { mu := [6, 7, 9, 29, 38], keepR := [1, 2, 3, 6, 7, 8, 9, 16, 20], res := [6, 7, 8], order := [(5, [(4, .read), (5, .read), (6, .read), (7, .read), (0, .pure), (1, .pure), (2, .pure), (3, .pure), (10, .pure), (11, .pure), (12, .pure), (13, .pure), (8, .forced), (9, .forced), (14, .forced), (15, .forced), (16, .forced)])], fillR := true }, mode := fun _ => .borrow }
noncomputable def O_spec_EndpointTake : Oracle := Oracle.of [(48, c_spec_l10Waiter), (49, c_spec_l10Queue)]
noncomputable def L_spec_EndpointTake : Loops := Loops.of []
theorem lf_spec_EndpointTake : LoopsFn Try.prog C_spec_EndpointTake O_spec_EndpointTake 29 L_spec_EndpointTake := LoopsFn.nil' (by kernel_rfl)
def out_spec_EndpointTake (r : Bool × DWaiter × Bool × (List DWaiter)) : AV × Store := outT [.agg [.dat .bool, .all 0], .one (.dat tWaiter), .one (.dat .bool)] [.data tWaiter] (r.1, r.2.1, r.2.2.1, r.2.2.2, ())
theorem w_spec_EndpointTake (x : FAr [.one (.dat tEndpoint), .one (.dat I), .one (.dat I)] []) : evBodyK Try.prog C_spec_EndpointTake O_spec_EndpointTake L_spec_EndpointTake 29 (encAr [.one (.dat tEndpoint), .one (.dat I), .one (.dat I)] [] x).1 (encAr [.one (.dat tEndpoint), .one (.dat I), .one (.dat I)] [] x).2 (fun v s => some (v, s)) =
    spec_EndpointTakeK x.1 x.2.1 x.2.2.1 (fun r => some (out_spec_EndpointTake r)) := by kernel_rfl
theorem sem_spec_EndpointTake : ∀ x y, (fun x => spec_EndpointTake x.1 x.2.1 x.2.2.1) x = some y → SemCall Try.prog 29 (encAr [.one (.dat tEndpoint), .one (.dat I), .one (.dat I)] [] x).1 (encAr [.one (.dat tEndpoint), .one (.dat I), .one (.dat I)] [] x).2 (out_spec_EndpointTake y).1 (out_spec_EndpointTake y).2 :=
  sem_of folP okP tabP (Oracle.of_ok (Oracle.cons_ok ok_spec_l10Waiter (Oracle.cons_ok ok_spec_l10Queue Oracle.nil_ok))) lf_spec_EndpointTake fun x => (w_spec_EndpointTake x).trans (spec_EndpointTake_eq x.1 x.2.1 x.2.2.1 _)
noncomputable def c_spec_EndpointTake : Con := Con.shape [.one (.dat tEndpoint), .one (.dat I), .one (.dat I)] [] (fun x => spec_EndpointTake x.1 x.2.1 x.2.2.1) out_spec_EndpointTake
theorem ok_spec_EndpointTake : ConOk Try.prog 29 c_spec_EndpointTake := Con.shape_ok sem_spec_EndpointTake

/-! 40 -/
def C_spec_l20Endpoint : Cfg := { T := tab, hint := fun _ => { mu := [4, 5, 8, 29, 38, 55, 63], keepR := [0, 1, 4, 5, 6, 7, 8, 15, 23, 25, 44, 46, 48, 57], res := [4], base := 1, keepL := [(0, [0, 1, 4, 5, 6, 7])], keepX := [(0, [0, 1, 4, 5]), (1, [0, 1, 4, 5, 6, 7]), (2, [4, 5])], fill := [(0, [0, 1, 4, 5, 6, 7])], fillR := true }, mode := modeOf [(47, .sub), (51, .sub), (58, .sub)] }
noncomputable def O_spec_l20Endpoint : Oracle := Oracle.of [(26, c_spec_EndpointSend), (29, c_spec_EndpointTake), (47, c_spec_l20Rd_pick), (51, c_spec_l20Waiter), (57, c_spec_l10Has), (58, c_spec_l20Rd_odd)]
def sh_spec_l20Endpoint_l0 : List (Nat × S2) := [(0, .one (.ptr 0 0 0)), (1, .one (.dat I)), (4, .one (.ptr 1 0 0)), (5, .one (.ptr 2 0 0)), (6, .one (.dat I)), (7, .one (.dat I))]
def bs_spec_l20Endpoint_l0 : List SB := [.one tl20Rd, .var [.dat .bool, .all 3], .var [.dat .bool, .all 4], .data tWaiter, .data tWaiter]
noncomputable def lc_spec_l20Endpoint_l0 : LCon := LCon.shape1 sh_spec_l20Endpoint_l0 bs_spec_l20Endpoint_l0 spec_l20Endpoint_l0 (fun a => (.exit 0, encSt [(0, .one (.ptr 0 0 0)), (1, .one (.dat I)), (4, .one (.ptr 1 0 0)), (5, .one (.ptr 2 0 0))] [.one tl20Rd, .var [.dat .bool, .all 3], .var [.dat .bool, .all 4], .data tWaiter, .data tWaiter] a))
noncomputable def L_spec_l20Endpoint : Loops := Loops.of [(0, lc_spec_l20Endpoint_l0)]
theorem r_spec_l20Endpoint_l0 (x : FSt sh_spec_l20Endpoint_l0 bs_spec_l20Endpoint_l0) : roundK C_spec_l20Endpoint.T (C_spec_l20Endpoint.hint 40) C_spec_l20Endpoint.mode O_spec_l20Endpoint L_spec_l20Endpoint 0 (lp Try.prog 40 0) (encSt sh_spec_l20Endpoint_l0 bs_spec_l20Endpoint_l0 x) (fun e s => some (e, s)) =
    spec_l20Endpoint_l0K x.1 x.2.1 x.2.2.1 x.2.2.2.1 x.2.2.2.2.1 x.2.2.2.2.2.1 x.2.2.2.2.2.2.1 x.2.2.2.2.2.2.2.1 (fun y => some (Ex.normal, encSt sh_spec_l20Endpoint_l0 bs_spec_l20Endpoint_l0 y)) (fun a => some (Ex.exit 0, encSt [(0, .one (.ptr 0 0 0)), (1, .one (.dat I)), (4, .one (.ptr 1 0 0)), (5, .one (.ptr 2 0 0))] [.one tl20Rd, .var [.dat .bool, .all 3], .var [.dat .bool, .all 4], .data tWaiter, .data tWaiter] a)) := by kernel_rfl
theorem lo_spec_l20Endpoint_l0 : LConOk C_spec_l20Endpoint.T (C_spec_l20Endpoint.hint 40) C_spec_l20Endpoint.mode O_spec_l20Endpoint L_spec_l20Endpoint 0 (lp Try.prog 40 0) lc_spec_l20Endpoint_l0 :=
  LCon.shape1_ok (fun a => by simp) fun x => (r_spec_l20Endpoint_l0 x).trans (spec_l20Endpoint_l0_eq x.1 x.2.1 x.2.2.1 x.2.2.2.1 x.2.2.2.2.1 x.2.2.2.2.2.1 x.2.2.2.2.2.2.1 x.2.2.2.2.2.2.2.1 _ _)
theorem lf_spec_l20Endpoint : LoopsFn Try.prog C_spec_l20Endpoint O_spec_l20Endpoint 40 L_spec_l20Endpoint := LoopsFn.all (by kernel_rfl) (by decide) ⟨lo_spec_l20Endpoint_l0, trivial⟩
def out_spec_l20Endpoint (r : Bool × Dl20Rd × (List DWaiter)) : AV × Store := out1 (.agg [.dat .bool, .all 1]) [.one tl20Rd, .data tWaiter] (r.1, r.2.1, r.2.2, ())
theorem w_spec_l20Endpoint (x : FAr [.one (.ptr 0 0 0), .one (.dat I)] [.one tl20Rd]) : evBodyK Try.prog C_spec_l20Endpoint O_spec_l20Endpoint L_spec_l20Endpoint 40 (encAr [.one (.ptr 0 0 0), .one (.dat I)] [.one tl20Rd] x).1 (encAr [.one (.ptr 0 0 0), .one (.dat I)] [.one tl20Rd] x).2 (fun v s => some (v, s)) =
    spec_l20EndpointK x.1 x.2.1 (fun r => some (out_spec_l20Endpoint r)) := by kernel_rfl
theorem sem_spec_l20Endpoint : ∀ x y, (fun x => spec_l20Endpoint x.1 x.2.1) x = some y → SemCall Try.prog 40 (encAr [.one (.ptr 0 0 0), .one (.dat I)] [.one tl20Rd] x).1 (encAr [.one (.ptr 0 0 0), .one (.dat I)] [.one tl20Rd] x).2 (out_spec_l20Endpoint y).1 (out_spec_l20Endpoint y).2 :=
  sem_of folP okP tabP (Oracle.of_ok (Oracle.cons_ok ok_spec_EndpointSend (Oracle.cons_ok ok_spec_EndpointTake (Oracle.cons_ok ok_spec_l20Rd_pick (Oracle.cons_ok ok_spec_l20Waiter (Oracle.cons_ok ok_spec_l10Has (Oracle.cons_ok ok_spec_l20Rd_odd Oracle.nil_ok))))))) lf_spec_l20Endpoint fun x => (w_spec_l20Endpoint x).trans (spec_l20Endpoint_eq x.1 x.2.1 _)
noncomputable def c_spec_l20Endpoint : Con := Con.shape [.one (.ptr 0 0 0), .one (.dat I)] [.one tl20Rd] (fun x => spec_l20Endpoint x.1 x.2.1) out_spec_l20Endpoint
theorem ok_spec_l20Endpoint : ConOk Try.prog 40 c_spec_l20Endpoint := Con.shape_ok sem_spec_l20Endpoint

/-! 18 -/
def C_spec_DrawEndpointValid : Cfg := { T := tab, hint := fun _ => { mu := [2, 4], keepR := [0, 2], res := [2] }, mode := modeOf [(40, .sub)] }
noncomputable def O_spec_DrawEndpointValid : Oracle := Oracle.of [(40, c_spec_l20Endpoint), (41, c_spec_l20Open)]
noncomputable def L_spec_DrawEndpointValid : Loops := Loops.of []
theorem lf_spec_DrawEndpointValid : LoopsFn Try.prog C_spec_DrawEndpointValid O_spec_DrawEndpointValid 18 L_spec_DrawEndpointValid := LoopsFn.nil' (by kernel_rfl)
def out_spec_DrawEndpointValid (r : Bool × (List DWaiter)) : AV × Store := out1 (.agg [.dat .bool, .all 0]) [.data tWaiter] (r.1, r.2, ())
theorem w_spec_DrawEndpointValid (x : FAr [.one (.dat (.sl (.int .u8)))] []) : evBodyK Try.prog C_spec_DrawEndpointValid O_spec_DrawEndpointValid L_spec_DrawEndpointValid 18 (encAr [.one (.dat (.sl (.int .u8)))] [] x).1 (encAr [.one (.dat (.sl (.int .u8)))] [] x).2 (fun v s => some (v, s)) =
    spec_DrawEndpointValidK x.1 (fun r => some (out_spec_DrawEndpointValid r)) := by kernel_rfl
theorem sem_spec_DrawEndpointValid : ∀ x y, (fun x => spec_DrawEndpointValid x.1) x = some y → SemCall Try.prog 18 (encAr [.one (.dat (.sl (.int .u8)))] [] x).1 (encAr [.one (.dat (.sl (.int .u8)))] [] x).2 (out_spec_DrawEndpointValid y).1 (out_spec_DrawEndpointValid y).2 :=
  sem_of folP okP tabP (Oracle.of_ok (Oracle.cons_ok ok_spec_l20Endpoint (Oracle.cons_ok ok_spec_l20Open Oracle.nil_ok))) lf_spec_DrawEndpointValid fun x => (w_spec_DrawEndpointValid x).trans (spec_DrawEndpointValid_eq x.1 _)
noncomputable def c_spec_DrawEndpointValid : Con := Con.shape [.one (.dat (.sl (.int .u8)))] [] (fun x => spec_DrawEndpointValid x.1) out_spec_DrawEndpointValid
theorem ok_spec_DrawEndpointValid : ConOk Try.prog 18 c_spec_DrawEndpointValid := Con.shape_ok sem_spec_DrawEndpointValid

/-! 19 -/
def out_laws_alive (r : Bool) : AV × Store := out1 (.one (.dat .bool)) [] (r, ())
theorem sem_laws_alive : ∀ x y, (fun x => laws_alive) x = some y → SemCall Try.prog 19 (encAr [] [] x).1 (encAr [] [] x).2 (out_laws_alive y).1 (out_laws_alive y).2 := fun x y h => by
  have e : y = true := (Option.some.inj h).symm
  subst e
  exact sem_of_below ⟨_, _, Try.func19, rfl, by kernel_rfl⟩ Try.aliveCalls
noncomputable def c_laws_alive : Con := Con.shape [] [] (fun x => laws_alive) out_laws_alive
theorem ok_laws_alive : ConOk Try.prog 19 c_laws_alive := Con.shape_ok sem_laws_alive

/-! 4 -/
def C_laws_FnEndpointValid : Cfg := { T := tab, hint := fun _ => { mu := [3, 5, 31], keepR := [0, 2, 3, 4, 5, 8, 16, 24], res := [2], order := [(9, [(2, .read), (3, .read), (4, .read), (0, .pure), (1, .pure), (6, .pure), (7, .pure), (8, .pure), (9, .pure), (10, .pure), (11, .pure), (12, .pure), (13, .pure), (14, .pure), (17, .late), (5, .forced), (15, .forced), (16, .forced), (18, .adopt 17), (18, .forced)]), (10, [(0, .read), (1, .read), (2, .forced), (3, .forced), (4, .forced), (5, .forced), (6, .forced), (7, .forced), (8, .forced), (9, .forced), (10, .forced), (11, .forced), (12, .forced)])], frzV := [(3, [(3, tEndpoint)]), (9, [(5, tEndpoint)])] }, mode := fun _ => .borrow }
noncomputable def O_laws_FnEndpointValid : Oracle := Oracle.of [(14, c_spec_EndpointValid), (16, c_impl_EndpointValid), (18, c_spec_DrawEndpointValid), (19, c_laws_alive)]
noncomputable def L_laws_FnEndpointValid : Loops := Loops.of []
theorem lf_laws_FnEndpointValid : LoopsFn Try.prog C_laws_FnEndpointValid O_laws_FnEndpointValid 4 L_laws_FnEndpointValid := LoopsFn.nil' (by kernel_rfl)
def out_laws_FnEndpointValid (r : Bool) : AV × Store := out1 (.one (.dat .bool)) [] (r, ())
theorem w_laws_FnEndpointValid (x : FAr [.one (.dat (.sl (.int .u8)))] []) : evBodyK Try.prog C_laws_FnEndpointValid O_laws_FnEndpointValid L_laws_FnEndpointValid 4 (encAr [.one (.dat (.sl (.int .u8)))] [] x).1 (encAr [.one (.dat (.sl (.int .u8)))] [] x).2 (fun v s => some (v, s)) =
    laws_FnEndpointValidK x.1 (fun r => some (out_laws_FnEndpointValid r)) := by kernel_rfl
theorem sem_laws_FnEndpointValid : ∀ x y, (fun x => laws_FnEndpointValid x.1) x = some y → SemCall Try.prog 4 (encAr [.one (.dat (.sl (.int .u8)))] [] x).1 (encAr [.one (.dat (.sl (.int .u8)))] [] x).2 (out_laws_FnEndpointValid y).1 (out_laws_FnEndpointValid y).2 :=
  sem_of folP okP tabP (Oracle.of_ok (Oracle.cons_ok ok_spec_EndpointValid (Oracle.cons_ok ok_impl_EndpointValid (Oracle.cons_ok ok_spec_DrawEndpointValid (Oracle.cons_ok ok_laws_alive Oracle.nil_ok))))) lf_laws_FnEndpointValid fun x => (w_laws_FnEndpointValid x).trans (laws_FnEndpointValid_eq x.1 _)
noncomputable def c_laws_FnEndpointValid : Con := Con.shape [.one (.dat (.sl (.int .u8)))] [] (fun x => laws_FnEndpointValid x.1) out_laws_FnEndpointValid
theorem ok_laws_FnEndpointValid : ConOk Try.prog 4 c_laws_FnEndpointValid := Con.shape_ok sem_laws_FnEndpointValid

/-! 20 -/
def C_spec_EndpointCancel : Cfg := { T := tab, hint := fun _ => { mu := [4, 6, 36], keepR := [1, 2, 4, 5, 6, 7, 10, 17, 27], res := [4, 5], order := [(8, [(0, .read), (1, .read), (2, .read), (3, .read), (4, .forced), (5, .forced), (6, .forced), (7, .forced), (8, .forced), (9, .forced), (10, .forced)]), (10, [(0, .read), (4, .pure), (5, .pure), (6, .pure), (1, .aside [0]), (2, .aside [0]), (3, .aside [0]), (7, .pure), (8, .forced), (9, .forced)])], keepL := [(0, [1, 2, 4, 6, 7])], keepX := [(0, [2, 4, 6]), (1, [1, 2, 4, 6, 7])], fill := [(0, [1, 2, 4, 6, 7])], fillR := true }, mode := fun _ => .borrow }
noncomputable def O_spec_EndpointCancel : Oracle := Oracle.of [(14, c_spec_EndpointValid)]
def sh_spec_EndpointCancel_l0 : List (Nat × S2) := [(1, .one (.dat I)), (2, .one (.cdat tEndpoint 0)), (4, .one (.ptr 0 0 0)), (6, .one (.ptr 1 0 0)), (7, .one (.dat I))]
def bs_spec_EndpointCancel_l0 : List SB := [.var [.dat .bool, .all 2], .var [.dat .bool, .all 3], .data tWaiter, .data tWaiter]
noncomputable def lc_spec_EndpointCancel_l0 : LCon := LCon.shape1 sh_spec_EndpointCancel_l0 bs_spec_EndpointCancel_l0 spec_EndpointCancel_l0 (fun a => (.exit 0, encSt [(2, .one (.cdat tEndpoint 0)), (4, .one (.ptr 0 0 0)), (6, .one (.ptr 1 0 0))] [.var [.dat .bool, .all 2], .var [.dat .bool, .all 3], .data tWaiter, .data tWaiter] a))
noncomputable def L_spec_EndpointCancel : Loops := Loops.of [(0, lc_spec_EndpointCancel_l0)]
theorem r_spec_EndpointCancel_l0 (x : FSt sh_spec_EndpointCancel_l0 bs_spec_EndpointCancel_l0) : roundK C_spec_EndpointCancel.T (C_spec_EndpointCancel.hint 20) C_spec_EndpointCancel.mode O_spec_EndpointCancel L_spec_EndpointCancel 0 (lp Try.prog 20 0) (encSt sh_spec_EndpointCancel_l0 bs_spec_EndpointCancel_l0 x) (fun e s => some (e, s)) =
    spec_EndpointCancel_l0K x.1 x.2.1 x.2.2.1 x.2.2.2.1 x.2.2.2.2.1 x.2.2.2.2.2.1 x.2.2.2.2.2.2.1 (fun y => some (Ex.normal, encSt sh_spec_EndpointCancel_l0 bs_spec_EndpointCancel_l0 y)) (fun a => some (Ex.exit 0, encSt [(2, .one (.cdat tEndpoint 0)), (4, .one (.ptr 0 0 0)), (6, .one (.ptr 1 0 0))] [.var [.dat .bool, .all 2], .var [.dat .bool, .all 3], .data tWaiter, .data tWaiter] a)) := by kernel_rfl
theorem lo_spec_EndpointCancel_l0 : LConOk C_spec_EndpointCancel.T (C_spec_EndpointCancel.hint 20) C_spec_EndpointCancel.mode O_spec_EndpointCancel L_spec_EndpointCancel 0 (lp Try.prog 20 0) lc_spec_EndpointCancel_l0 :=
  LCon.shape1_ok (fun a => by simp) fun x => (r_spec_EndpointCancel_l0 x).trans (spec_EndpointCancel_l0_eq x.1 x.2.1 x.2.2.1 x.2.2.2.1 x.2.2.2.2.1 x.2.2.2.2.2.1 x.2.2.2.2.2.2.1 _ _)
theorem lf_spec_EndpointCancel : LoopsFn Try.prog C_spec_EndpointCancel O_spec_EndpointCancel 20 L_spec_EndpointCancel := LoopsFn.all (by kernel_rfl) (by decide) ⟨lo_spec_EndpointCancel_l0, trivial⟩
def out_spec_EndpointCancel (r : Bool × Bool × (List DWaiter)) : AV × Store := outT [.agg [.dat .bool, .all 0], .one (.dat .bool)] [.data tWaiter] (r.1, r.2.1, r.2.2, ())
theorem w_spec_EndpointCancel (x : FAr [.one (.dat tEndpoint), .one (.dat I)] []) : evBodyK Try.prog C_spec_EndpointCancel O_spec_EndpointCancel L_spec_EndpointCancel 20 (encAr [.one (.dat tEndpoint), .one (.dat I)] [] x).1 (encAr [.one (.dat tEndpoint), .one (.dat I)] [] x).2 (fun v s => some (v, s)) =
    spec_EndpointCancelK x.1 x.2.1 (fun r => some (out_spec_EndpointCancel r)) := by kernel_rfl
theorem sem_spec_EndpointCancel : ∀ x y, (fun x => spec_EndpointCancel x.1 x.2.1) x = some y → SemCall Try.prog 20 (encAr [.one (.dat tEndpoint), .one (.dat I)] [] x).1 (encAr [.one (.dat tEndpoint), .one (.dat I)] [] x).2 (out_spec_EndpointCancel y).1 (out_spec_EndpointCancel y).2 :=
  sem_of folP okP tabP (Oracle.of_ok (Oracle.cons_ok ok_spec_EndpointValid Oracle.nil_ok)) lf_spec_EndpointCancel fun x => (w_spec_EndpointCancel x).trans (spec_EndpointCancel_eq x.1 x.2.1 _)
noncomputable def c_spec_EndpointCancel : Con := Con.shape [.one (.dat tEndpoint), .one (.dat I)] [] (fun x => spec_EndpointCancel x.1 x.2.1) out_spec_EndpointCancel
theorem ok_spec_EndpointCancel : ConOk Try.prog 20 c_spec_EndpointCancel := Con.shape_ok sem_spec_EndpointCancel

/-! 63 -/
def C_slices_Clone_Waiter : Cfg := { T := tab, hint := fun _ => { mu := [2, 7], keepR := [0, 2, 4], res := [2] }, mode := fun _ => .borrow }
noncomputable def O_slices_Clone_Waiter : Oracle := Oracle.of []
noncomputable def L_slices_Clone_Waiter : Loops := Loops.of []
theorem lf_slices_Clone_Waiter : LoopsFn Try.prog C_slices_Clone_Waiter O_slices_Clone_Waiter 63 L_slices_Clone_Waiter := LoopsFn.nil' (by kernel_rfl)
def out_slices_Clone_Waiter (r : (List DWaiter)) : AV × Store := out1 (.one (.all 0)) [.data tWaiter] (r, ())
theorem w_slices_Clone_Waiter (x : FAr [.one (.dat (.sl tWaiter))] []) : evBodyK Try.prog C_slices_Clone_Waiter O_slices_Clone_Waiter L_slices_Clone_Waiter 63 (encAr [.one (.dat (.sl tWaiter))] [] x).1 (encAr [.one (.dat (.sl tWaiter))] [] x).2 (fun v s => some (v, s)) =
    slices_Clone_WaiterR x.1 (fun r => some (out_slices_Clone_Waiter r)) := by kernel_rfl
theorem sem_slices_Clone_Waiter : ∀ x y, (fun x => slices_Clone_Waiter x.1) x = some y → SemCall Try.prog 63 (encAr [.one (.dat (.sl tWaiter))] [] x).1 (encAr [.one (.dat (.sl tWaiter))] [] x).2 (out_slices_Clone_Waiter y).1 (out_slices_Clone_Waiter y).2 :=
  sem_of folP okP tabP (Oracle.of_ok Oracle.nil_ok) lf_slices_Clone_Waiter fun x => (w_slices_Clone_Waiter x).trans ((slices_Clone_Waiter_raw x.1 _).trans (slices_Clone_Waiter_eq x.1 _))
noncomputable def c_slices_Clone_Waiter : Con := Con.shape [.one (.dat (.sl tWaiter))] [] (fun x => slices_Clone_Waiter x.1) out_slices_Clone_Waiter
theorem ok_slices_Clone_Waiter : ConOk Try.prog 63 c_slices_Clone_Waiter := Con.shape_ok sem_slices_Clone_Waiter

/-! 62 -/
def C_slices_Clip_Waiter : Cfg := { T := tab, hint := fun _ => { mu := [8], keepR := [0, 2], res := [2], base := 1 }, mode := fun _ => .borrow }
noncomputable def O_slices_Clip_Waiter : Oracle := Oracle.of []
noncomputable def L_slices_Clip_Waiter : Loops := Loops.of []
theorem lf_slices_Clip_Waiter : LoopsFn Try.prog C_slices_Clip_Waiter O_slices_Clip_Waiter 62 L_slices_Clip_Waiter := LoopsFn.nil' (by kernel_rfl)
def out_slices_Clip_Waiter (r : (List DWaiter)) : AV × Store := out1 (.one (.all 0)) [.data tWaiter] (r, ())
theorem w_slices_Clip_Waiter (x : FAr [.one (.all 0)] [.data tWaiter]) : evBodyK Try.prog C_slices_Clip_Waiter O_slices_Clip_Waiter L_slices_Clip_Waiter 62 (encAr [.one (.all 0)] [.data tWaiter] x).1 (encAr [.one (.all 0)] [.data tWaiter] x).2 (fun v s => some (v, s)) =
    slices_Clip_WaiterK x.1 (fun r => some (out_slices_Clip_Waiter r)) := by kernel_rfl
theorem sem_slices_Clip_Waiter : ∀ x y, (fun x => slices_Clip_Waiter x.1) x = some y → SemCall Try.prog 62 (encAr [.one (.all 0)] [.data tWaiter] x).1 (encAr [.one (.all 0)] [.data tWaiter] x).2 (out_slices_Clip_Waiter y).1 (out_slices_Clip_Waiter y).2 :=
  sem_of folP okP tabP (Oracle.of_ok Oracle.nil_ok) lf_slices_Clip_Waiter fun x => (w_slices_Clip_Waiter x).trans (slices_Clip_Waiter_eq x.1 _)
noncomputable def c_slices_Clip_Waiter : Con := Con.shape [.one (.all 0)] [.data tWaiter] (fun x => slices_Clip_Waiter x.1) out_slices_Clip_Waiter
theorem ok_slices_Clip_Waiter : ConOk Try.prog 62 c_slices_Clip_Waiter := Con.shape_ok sem_slices_Clip_Waiter

/-! 43 -/
def C_impl_clone_Waiter : Cfg := { T := tab, hint := fun _ => { mu := [4], keepR := [0, 2], res := [2] }, mode := modeOf [(62, .sub)] }
noncomputable def O_impl_clone_Waiter : Oracle := Oracle.of [(62, c_slices_Clip_Waiter), (63, c_slices_Clone_Waiter)]
noncomputable def L_impl_clone_Waiter : Loops := Loops.of []
theorem lf_impl_clone_Waiter : LoopsFn Try.prog C_impl_clone_Waiter O_impl_clone_Waiter 43 L_impl_clone_Waiter := LoopsFn.nil' (by kernel_rfl)
def out_impl_clone_Waiter (r : (List DWaiter)) : AV × Store := out1 (.one (.all 0)) [.data tWaiter] (r, ())
theorem w_impl_clone_Waiter (x : FAr [.one (.dat (.sl tWaiter))] []) : evBodyK Try.prog C_impl_clone_Waiter O_impl_clone_Waiter L_impl_clone_Waiter 43 (encAr [.one (.dat (.sl tWaiter))] [] x).1 (encAr [.one (.dat (.sl tWaiter))] [] x).2 (fun v s => some (v, s)) =
    impl_clone_WaiterK x.1 (fun r => some (out_impl_clone_Waiter r)) := by kernel_rfl
theorem sem_impl_clone_Waiter : ∀ x y, (fun x => impl_clone_Waiter x.1) x = some y → SemCall Try.prog 43 (encAr [.one (.dat (.sl tWaiter))] [] x).1 (encAr [.one (.dat (.sl tWaiter))] [] x).2 (out_impl_clone_Waiter y).1 (out_impl_clone_Waiter y).2 :=
  sem_of folP okP tabP (Oracle.of_ok (Oracle.cons_ok ok_slices_Clip_Waiter (Oracle.cons_ok ok_slices_Clone_Waiter Oracle.nil_ok))) lf_impl_clone_Waiter fun x => (w_impl_clone_Waiter x).trans (impl_clone_Waiter_eq x.1 _)
noncomputable def c_impl_clone_Waiter : Con := Con.shape [.one (.dat (.sl tWaiter))] [] (fun x => impl_clone_Waiter x.1) out_impl_clone_Waiter
theorem ok_impl_clone_Waiter : ConOk Try.prog 43 c_impl_clone_Waiter := Con.shape_ok sem_impl_clone_Waiter

/-! 64 -/
def C_slices_Delete_Waiter : Cfg := { T := tab, hint := fun _ => { keepR := [0, 1, 2, 6, 7, 16], res := [6], base := 1, order := [(5, [(0, .read), (1, .read), (2, .read), (3, .read), (4, .forced), (5, .forced), (6, .forced), (7, .forced)])], refR := true }, mode := fun _ => .borrow }
noncomputable def O_slices_Delete_Waiter : Oracle := Oracle.of []
noncomputable def L_slices_Delete_Waiter : Loops := Loops.of []
theorem lf_slices_Delete_Waiter : LoopsFn Try.prog C_slices_Delete_Waiter O_slices_Delete_Waiter 64 L_slices_Delete_Waiter := LoopsFn.nil' (by kernel_rfl)
def out_slices_Delete_Waiter (r : Nat × (List DWaiter)) : AV × Store := out1 (.one (.refn 0)) [.data tWaiter] (r.1, r.2, ())
theorem w_slices_Delete_Waiter (x : FAr [.one (.all 0), .one (.dat I), .one (.dat I)] [.data tWaiter]) : evBodyK Try.prog C_slices_Delete_Waiter O_slices_Delete_Waiter L_slices_Delete_Waiter 64 (encAr [.one (.all 0), .one (.dat I), .one (.dat I)] [.data tWaiter] x).1 (encAr [.one (.all 0), .one (.dat I), .one (.dat I)] [.data tWaiter] x).2 (fun v s => some (v, s)) =
    slices_Delete_WaiterK x.1 x.2.1 x.2.2.1 (fun r => some (out_slices_Delete_Waiter r)) := by kernel_rfl
theorem sem_slices_Delete_Waiter : ∀ x y, (fun x => slices_Delete_Waiter x.1 x.2.1 x.2.2.1) x = some y → SemCall Try.prog 64 (encAr [.one (.all 0), .one (.dat I), .one (.dat I)] [.data tWaiter] x).1 (encAr [.one (.all 0), .one (.dat I), .one (.dat I)] [.data tWaiter] x).2 (out_slices_Delete_Waiter y).1 (out_slices_Delete_Waiter y).2 :=
  sem_of folP okP tabP (Oracle.of_ok Oracle.nil_ok) lf_slices_Delete_Waiter fun x => (w_slices_Delete_Waiter x).trans (slices_Delete_Waiter_eq x.1 x.2.1 x.2.2.1 _)
noncomputable def c_slices_Delete_Waiter : Con := Con.shape [.one (.all 0), .one (.dat I), .one (.dat I)] [.data tWaiter] (fun x => slices_Delete_Waiter x.1 x.2.1 x.2.2.1) out_slices_Delete_Waiter
theorem ok_slices_Delete_Waiter : ConOk Try.prog 64 c_slices_Delete_Waiter := Con.shape_ok sem_slices_Delete_Waiter

/-! 44 -/
def C_impl_Endpoint_without : Cfg := { T := tab, hint := fun _ => { mu := [4, 8, 13], keepR := [1, 2, 4, 5], res := [4] }, mode := modeOf [(64, .sub)] }
noncomputable def O_impl_Endpoint_without : Oracle := Oracle.of [(43, c_impl_clone_Waiter), (63, c_slices_Clone_Waiter), (64, c_slices_Delete_Waiter)]
noncomputable def L_impl_Endpoint_without : Loops := Loops.of []
theorem lf_impl_Endpoint_without : LoopsFn Try.prog C_impl_Endpoint_without O_impl_Endpoint_without 44 L_impl_Endpoint_without := LoopsFn.nil' (by kernel_rfl)
def out_impl_Endpoint_without (r : Bool × (List DWaiter)) : AV × Store := out1 (.agg [.dat .bool, .all 0]) [.data tWaiter] (r.1, r.2, ())
theorem w_impl_Endpoint_without (x : FAr [.one (.dat tEndpoint), .one (.dat I)] []) : evBodyK Try.prog C_impl_Endpoint_without O_impl_Endpoint_without L_impl_Endpoint_without 44 (encAr [.one (.dat tEndpoint), .one (.dat I)] [] x).1 (encAr [.one (.dat tEndpoint), .one (.dat I)] [] x).2 (fun v s => some (v, s)) =
    impl_Endpoint_withoutK x.1 x.2.1 (fun r => some (out_impl_Endpoint_without r)) := by kernel_rfl
theorem sem_impl_Endpoint_without : ∀ x y, (fun x => impl_Endpoint_without x.1 x.2.1) x = some y → SemCall Try.prog 44 (encAr [.one (.dat tEndpoint), .one (.dat I)] [] x).1 (encAr [.one (.dat tEndpoint), .one (.dat I)] [] x).2 (out_impl_Endpoint_without y).1 (out_impl_Endpoint_without y).2 :=
  sem_of folP okP tabP (Oracle.of_ok (Oracle.cons_ok ok_impl_clone_Waiter (Oracle.cons_ok ok_slices_Clone_Waiter (Oracle.cons_ok ok_slices_Delete_Waiter Oracle.nil_ok)))) lf_impl_Endpoint_without fun x => (w_impl_Endpoint_without x).trans (impl_Endpoint_without_eq x.1 x.2.1 _)
noncomputable def c_impl_Endpoint_without : Con := Con.shape [.one (.dat tEndpoint), .one (.dat I)] [] (fun x => impl_Endpoint_without x.1 x.2.1) out_impl_Endpoint_without
theorem ok_impl_Endpoint_without : ConOk Try.prog 44 c_impl_Endpoint_without := Con.shape_ok sem_impl_Endpoint_without

/-! 21 -/
def C_impl_EndpointCancel : Cfg := { T := tab, hint := fun _ => { mu := [4, 20, 24], keepR := [1, 2, 4, 5, 6, 9, 15], res := [4, 5], order := [(5, [(0, .read), (1, .read), (2, .forced), (3, .forced), (4, .forced), (5, .forced), (6, .forced), (7, .forced)])], fillR := true }, mode := fun _ => .borrow }
noncomputable def O_impl_EndpointCancel : Oracle := Oracle.of [(16, c_impl_EndpointValid), (38, c_impl_Endpoint_at), (43, c_impl_clone_Waiter), (44, c_impl_Endpoint_without)]
noncomputable def L_impl_EndpointCancel : Loops := Loops.of []
theorem lf_impl_EndpointCancel : LoopsFn Try.prog C_impl_EndpointCancel O_impl_EndpointCancel 21 L_impl_EndpointCancel := LoopsFn.nil' (by kernel_rfl)
def out_impl_EndpointCancel (r : Bool × Bool × (List DWaiter)) : AV × Store := outT [.agg [.dat .bool, .all 0], .one (.dat .bool)] [.data tWaiter] (r.1, r.2.1, r.2.2, ())
theorem w_impl_EndpointCancel (x : FAr [.one (.dat tEndpoint), .one (.dat I)] []) : evBodyK Try.prog C_impl_EndpointCancel O_impl_EndpointCancel L_impl_EndpointCancel 21 (encAr [.one (.dat tEndpoint), .one (.dat I)] [] x).1 (encAr [.one (.dat tEndpoint), .one (.dat I)] [] x).2 (fun v s => some (v, s)) =
    impl_EndpointCancelK x.1 x.2.1 (fun r => some (out_impl_EndpointCancel r)) := by kernel_rfl
theorem sem_impl_EndpointCancel : ∀ x y, (fun x => impl_EndpointCancel x.1 x.2.1) x = some y → SemCall Try.prog 21 (encAr [.one (.dat tEndpoint), .one (.dat I)] [] x).1 (encAr [.one (.dat tEndpoint), .one (.dat I)] [] x).2 (out_impl_EndpointCancel y).1 (out_impl_EndpointCancel y).2 :=
  sem_of folP okP tabP (Oracle.of_ok (Oracle.cons_ok ok_impl_EndpointValid (Oracle.cons_ok ok_impl_Endpoint_at (Oracle.cons_ok ok_impl_clone_Waiter (Oracle.cons_ok ok_impl_Endpoint_without Oracle.nil_ok))))) lf_impl_EndpointCancel fun x => (w_impl_EndpointCancel x).trans (impl_EndpointCancel_eq x.1 x.2.1 _)
noncomputable def c_impl_EndpointCancel : Con := Con.shape [.one (.dat tEndpoint), .one (.dat I)] [] (fun x => impl_EndpointCancel x.1 x.2.1) out_impl_EndpointCancel
theorem ok_impl_EndpointCancel : ConOk Try.prog 21 c_impl_EndpointCancel := Con.shape_ok sem_impl_EndpointCancel

/-! 45 -/
def C_laws_markWaiterS : Cfg := { T := tab, hint := fun _ => { keepR := [0, 1, 4, 5, 9], res := [4], base := 1, keepL := [(0, [0, 1, 5])], keepX := [(0, [1]), (1, [0, 1, 5])] }, mode := fun _ => .borrow }
noncomputable def O_laws_markWaiterS : Oracle := Oracle.of []
def sh_laws_markWaiterS_l0 : List (Nat × S2) := [(0, .one (.all 0)), (1, .one (.dat I)), (5, .one (.dat I))]
def bs_laws_markWaiterS_l0 : List SB := [.data tWaiter]
noncomputable def lc_laws_markWaiterS_l0 : LCon := LCon.shape1 sh_laws_markWaiterS_l0 bs_laws_markWaiterS_l0 laws_markWaiterS_l0 (fun a => (.exit 0, encSt [(1, .one (.dat I))] [.data tWaiter] a))
noncomputable def L_laws_markWaiterS : Loops := Loops.of [(0, lc_laws_markWaiterS_l0)]
theorem r_laws_markWaiterS_l0 (x : FSt sh_laws_markWaiterS_l0 bs_laws_markWaiterS_l0) : roundK C_laws_markWaiterS.T (C_laws_markWaiterS.hint 45) C_laws_markWaiterS.mode O_laws_markWaiterS L_laws_markWaiterS 0 (lp Try.prog 45 0) (encSt sh_laws_markWaiterS_l0 bs_laws_markWaiterS_l0 x) (fun e s => some (e, s)) =
    laws_markWaiterS_l0K x.1 x.2.1 x.2.2.1 (fun y => some (Ex.normal, encSt sh_laws_markWaiterS_l0 bs_laws_markWaiterS_l0 y)) (fun a => some (Ex.exit 0, encSt [(1, .one (.dat I))] [.data tWaiter] a)) := by kernel_rfl
theorem lo_laws_markWaiterS_l0 : LConOk C_laws_markWaiterS.T (C_laws_markWaiterS.hint 45) C_laws_markWaiterS.mode O_laws_markWaiterS L_laws_markWaiterS 0 (lp Try.prog 45 0) lc_laws_markWaiterS_l0 :=
  LCon.shape1_ok (fun a => by simp) fun x => (r_laws_markWaiterS_l0 x).trans (laws_markWaiterS_l0_eq x.1 x.2.1 x.2.2.1 _ _)
theorem lf_laws_markWaiterS : LoopsFn Try.prog C_laws_markWaiterS O_laws_markWaiterS 45 L_laws_markWaiterS := LoopsFn.all (by kernel_rfl) (by decide) ⟨lo_laws_markWaiterS_l0, trivial⟩
def out_laws_markWaiterS (r : Int × (List DWaiter)) : AV × Store := out1 (.one (.dat I)) [.data tWaiter] (r.1, r.2, ())
theorem w_laws_markWaiterS (x : FAr [.one (.all 0), .one (.dat I)] [.data tWaiter]) : evBodyK Try.prog C_laws_markWaiterS O_laws_markWaiterS L_laws_markWaiterS 45 (encAr [.one (.all 0), .one (.dat I)] [.data tWaiter] x).1 (encAr [.one (.all 0), .one (.dat I)] [.data tWaiter] x).2 (fun v s => some (v, s)) =
    laws_markWaiterSK x.1 x.2.1 (fun r => some (out_laws_markWaiterS r)) := by kernel_rfl
theorem sem_laws_markWaiterS : ∀ x y, (fun x => laws_markWaiterS x.1 x.2.1) x = some y → SemCall Try.prog 45 (encAr [.one (.all 0), .one (.dat I)] [.data tWaiter] x).1 (encAr [.one (.all 0), .one (.dat I)] [.data tWaiter] x).2 (out_laws_markWaiterS y).1 (out_laws_markWaiterS y).2 :=
  sem_of folP okP tabP (Oracle.of_ok Oracle.nil_ok) lf_laws_markWaiterS fun x => (w_laws_markWaiterS x).trans (laws_markWaiterS_eq x.1 x.2.1 _)
noncomputable def c_laws_markWaiterS : Con := Con.shape [.one (.all 0), .one (.dat I)] [.data tWaiter] (fun x => laws_markWaiterS x.1 x.2.1) out_laws_markWaiterS
theorem ok_laws_markWaiterS : ConOk Try.prog 45 c_laws_markWaiterS := Con.shape_ok sem_laws_markWaiterS

/-! 22 -/
def C_laws_markEndpoint : Cfg := { T := tab, hint := fun _ => { mu := [2], keepR := [1, 2, 4], res := [4], base := 1 }, mode := modeOf [(45, .sub)] }
noncomputable def O_laws_markEndpoint : Oracle := Oracle.of [(45, c_laws_markWaiterS)]
noncomputable def L_laws_markEndpoint : Loops := Loops.of []
theorem lf_laws_markEndpoint : LoopsFn Try.prog C_laws_markEndpoint O_laws_markEndpoint 22 L_laws_markEndpoint := LoopsFn.nil' (by kernel_rfl)
def out_laws_markEndpoint (r : Int × (List DWaiter)) : AV × Store := out1 (.one (.dat I)) [.data tWaiter] (r.1, r.2, ())
theorem w_laws_markEndpoint (x : FAr [.agg [.dat .bool, .all 0], .one (.dat I)] [.data tWaiter]) : evBodyK Try.prog C_laws_markEndpoint O_laws_markEndpoint L_laws_markEndpoint 22 (encAr [.agg [.dat .bool, .all 0], .one (.dat I)] [.data tWaiter] x).1 (encAr [.agg [.dat .bool, .all 0], .one (.dat I)] [.data tWaiter] x).2 (fun v s => some (v, s)) =
    laws_markEndpointK x.1 x.2.1 x.2.2.1 (fun r => some (out_laws_markEndpoint r)) := by kernel_rfl
theorem sem_laws_markEndpoint : ∀ x y, (fun x => laws_markEndpoint x.1 x.2.1 x.2.2.1) x = some y → SemCall Try.prog 22 (encAr [.agg [.dat .bool, .all 0], .one (.dat I)] [.data tWaiter] x).1 (encAr [.agg [.dat .bool, .all 0], .one (.dat I)] [.data tWaiter] x).2 (out_laws_markEndpoint y).1 (out_laws_markEndpoint y).2 :=
  sem_of folP okP tabP (Oracle.of_ok (Oracle.cons_ok ok_laws_markWaiterS Oracle.nil_ok)) lf_laws_markEndpoint fun x => (w_laws_markEndpoint x).trans (laws_markEndpoint_eq x.1 x.2.1 x.2.2.1 _)
noncomputable def c_laws_markEndpoint : Con := Con.shape [.agg [.dat .bool, .all 0], .one (.dat I)] [.data tWaiter] (fun x => laws_markEndpoint x.1 x.2.1 x.2.2.1) out_laws_markEndpoint
theorem ok_laws_markEndpoint : ConOk Try.prog 22 c_laws_markEndpoint := Con.shape_ok sem_laws_markEndpoint

/-! 46 -/
def C_laws_heldWaiterS : Cfg := { T := tab, hint := fun _ => { keepR := [0, 1, 4, 5, 9, 18, 27, 36, 45], res := [4], keepL := [(0, [0, 1, 5])], keepX := [(0, [1]), (1, [0, 1, 5])] }, mode := fun _ => .borrow }
noncomputable def O_laws_heldWaiterS : Oracle := Oracle.of []
def sh_laws_heldWaiterS_l0 : List (Nat × S2) := [(0, .one (.dat (.sl tWaiter))), (1, .one (.dat I)), (5, .one (.dat I))]
def bs_laws_heldWaiterS_l0 : List SB := []
noncomputable def lc_laws_heldWaiterS_l0 : LCon := LCon.shape sh_laws_heldWaiterS_l0 bs_laws_heldWaiterS_l0 laws_heldWaiterS_l0 (fun a => (.exit 0, encSt [(1, .one (.dat I))] [] a)) (fun b => encSt [(4, .one (.dat I))] [] b)
noncomputable def L_laws_heldWaiterS : Loops := Loops.of [(0, lc_laws_heldWaiterS_l0)]
theorem r_laws_heldWaiterS_l0 (x : FSt sh_laws_heldWaiterS_l0 bs_laws_heldWaiterS_l0) : roundK C_laws_heldWaiterS.T (C_laws_heldWaiterS.hint 46) C_laws_heldWaiterS.mode O_laws_heldWaiterS L_laws_heldWaiterS 0 (lp Try.prog 46 0) (encSt sh_laws_heldWaiterS_l0 bs_laws_heldWaiterS_l0 x) (fun e s => some (e, s)) =
    laws_heldWaiterS_l0K x.1 x.2.1 x.2.2.1 (fun y => some (Ex.normal, encSt sh_laws_heldWaiterS_l0 bs_laws_heldWaiterS_l0 y)) (fun a => some (Ex.exit 0, encSt [(1, .one (.dat I))] [] a)) (fun b => some (Ex.ret, encSt [(4, .one (.dat I))] [] b)) := by kernel_rfl
theorem lo_laws_heldWaiterS_l0 : LConOk C_laws_heldWaiterS.T (C_laws_heldWaiterS.hint 46) C_laws_heldWaiterS.mode O_laws_heldWaiterS L_laws_heldWaiterS 0 (lp Try.prog 46 0) lc_laws_heldWaiterS_l0 :=
  LCon.shape_ok (fun a => by simp) fun x => (r_laws_heldWaiterS_l0 x).trans (laws_heldWaiterS_l0_eq x.1 x.2.1 x.2.2.1 _ _ _)
theorem lf_laws_heldWaiterS : LoopsFn Try.prog C_laws_heldWaiterS O_laws_heldWaiterS 46 L_laws_heldWaiterS := LoopsFn.all (by kernel_rfl) (by decide) ⟨lo_laws_heldWaiterS_l0, trivial⟩
def out_laws_heldWaiterS (r : Int) : AV × Store := out1 (.one (.dat I)) [] (r, ())
theorem w_laws_heldWaiterS (x : FAr [.one (.dat (.sl tWaiter)), .one (.dat I)] []) : evBodyK Try.prog C_laws_heldWaiterS O_laws_heldWaiterS L_laws_heldWaiterS 46 (encAr [.one (.dat (.sl tWaiter)), .one (.dat I)] [] x).1 (encAr [.one (.dat (.sl tWaiter)), .one (.dat I)] [] x).2 (fun v s => some (v, s)) =
    laws_heldWaiterSK x.1 x.2.1 (fun r => some (out_laws_heldWaiterS r)) := by kernel_rfl
theorem sem_laws_heldWaiterS : ∀ x y, (fun x => laws_heldWaiterS x.1 x.2.1) x = some y → SemCall Try.prog 46 (encAr [.one (.dat (.sl tWaiter)), .one (.dat I)] [] x).1 (encAr [.one (.dat (.sl tWaiter)), .one (.dat I)] [] x).2 (out_laws_heldWaiterS y).1 (out_laws_heldWaiterS y).2 :=
  sem_of folP okP tabP (Oracle.of_ok Oracle.nil_ok) lf_laws_heldWaiterS fun x => (w_laws_heldWaiterS x).trans (laws_heldWaiterS_eq x.1 x.2.1 _)
noncomputable def c_laws_heldWaiterS : Con := Con.shape [.one (.dat (.sl tWaiter)), .one (.dat I)] [] (fun x => laws_heldWaiterS x.1 x.2.1) out_laws_heldWaiterS
theorem ok_laws_heldWaiterS : ConOk Try.prog 46 c_laws_heldWaiterS := Con.shape_ok sem_laws_heldWaiterS

/-! 23 -/
def C_laws_heldEndpoint : Cfg := { T := tab, hint := fun _ => { keepR := [1, 2, 4, 10], res := [4] }, mode := fun _ => .borrow }
noncomputable def O_laws_heldEndpoint : Oracle := Oracle.of [(46, c_laws_heldWaiterS)]
noncomputable def L_laws_heldEndpoint : Loops := Loops.of []
theorem lf_laws_heldEndpoint : LoopsFn Try.prog C_laws_heldEndpoint O_laws_heldEndpoint 23 L_laws_heldEndpoint := LoopsFn.nil' (by kernel_rfl)
def out_laws_heldEndpoint (r : Int) : AV × Store := out1 (.one (.dat I)) [] (r, ())
theorem w_laws_heldEndpoint (x : FAr [.one (.dat tEndpoint), .one (.dat I)] []) : evBodyK Try.prog C_laws_heldEndpoint O_laws_heldEndpoint L_laws_heldEndpoint 23 (encAr [.one (.dat tEndpoint), .one (.dat I)] [] x).1 (encAr [.one (.dat tEndpoint), .one (.dat I)] [] x).2 (fun v s => some (v, s)) =
    laws_heldEndpointK x.1 x.2.1 (fun r => some (out_laws_heldEndpoint r)) := by kernel_rfl
theorem sem_laws_heldEndpoint : ∀ x y, (fun x => laws_heldEndpoint x.1 x.2.1) x = some y → SemCall Try.prog 23 (encAr [.one (.dat tEndpoint), .one (.dat I)] [] x).1 (encAr [.one (.dat tEndpoint), .one (.dat I)] [] x).2 (out_laws_heldEndpoint y).1 (out_laws_heldEndpoint y).2 :=
  sem_of folP okP tabP (Oracle.of_ok (Oracle.cons_ok ok_laws_heldWaiterS Oracle.nil_ok)) lf_laws_heldEndpoint fun x => (w_laws_heldEndpoint x).trans (laws_heldEndpoint_eq x.1 x.2.1 _)
noncomputable def c_laws_heldEndpoint : Con := Con.shape [.one (.dat tEndpoint), .one (.dat I)] [] (fun x => laws_heldEndpoint x.1 x.2.1) out_laws_heldEndpoint
theorem ok_laws_heldEndpoint : ConOk Try.prog 23 c_laws_heldEndpoint := Con.shape_ok sem_laws_heldEndpoint

/-! 5 -/
def C_laws_FnExactEndpointCancel : Cfg := { T := tab, hint := fun _ => { mu := [6, 8, 9, 14, 29, 33], keepR := [1, 2, 4, 5, 6, 7, 8, 9, 10, 11, 12, 13, 14, 15, 20, 44, 49, 65, 73, 76, 92, 97, 100], res := [4], order := [(10, [(0, .read), (1, .forced), (2, .forced), (3, .forced), (4, .forced)])] }, mode := modeOf [(22, .sub)] }
noncomputable def O_laws_FnExactEndpointCancel : Oracle := Oracle.of [(13, c_laws_szEndpoint), (15, c_laws_toEndpoint), (17, c_laws_eqEndpoint), (20, c_spec_EndpointCancel), (21, c_impl_EndpointCancel), (22, c_laws_markEndpoint), (23, c_laws_heldEndpoint)]
noncomputable def L_laws_FnExactEndpointCancel : Loops := Loops.of []
theorem lf_laws_FnExactEndpointCancel : LoopsFn Try.prog C_laws_FnExactEndpointCancel O_laws_FnExactEndpointCancel 5 L_laws_FnExactEndpointCancel := LoopsFn.nil' (by kernel_rfl)
def out_laws_FnExactEndpointCancel (r : Bool) : AV × Store := out1 (.one (.dat .bool)) [] (r, ())
theorem w_laws_FnExactEndpointCancel (x : FAr [.one (.dat tEndpoint), .one (.dat I)] []) : evBodyK Try.prog C_laws_FnExactEndpointCancel O_laws_FnExactEndpointCancel L_laws_FnExactEndpointCancel 5 (encAr [.one (.dat tEndpoint), .one (.dat I)] [] x).1 (encAr [.one (.dat tEndpoint), .one (.dat I)] [] x).2 (fun v s => some (v, s)) =
    laws_FnExactEndpointCancelK x.1 x.2.1 (fun r => some (out_laws_FnExactEndpointCancel r)) := by kernel_rfl
theorem sem_laws_FnExactEndpointCancel : ∀ x y, (fun x => laws_FnExactEndpointCancel x.1 x.2.1) x = some y → SemCall Try.prog 5 (encAr [.one (.dat tEndpoint), .one (.dat I)] [] x).1 (encAr [.one (.dat tEndpoint), .one (.dat I)] [] x).2 (out_laws_FnExactEndpointCancel y).1 (out_laws_FnExactEndpointCancel y).2 :=
  sem_of folP okP tabP (Oracle.of_ok (Oracle.cons_ok ok_laws_szEndpoint (Oracle.cons_ok ok_laws_toEndpoint (Oracle.cons_ok ok_laws_eqEndpoint (Oracle.cons_ok ok_spec_EndpointCancel (Oracle.cons_ok ok_impl_EndpointCancel (Oracle.cons_ok ok_laws_markEndpoint (Oracle.cons_ok ok_laws_heldEndpoint Oracle.nil_ok)))))))) lf_laws_FnExactEndpointCancel fun x => (w_laws_FnExactEndpointCancel x).trans (laws_FnExactEndpointCancel_eq x.1 x.2.1 _)
noncomputable def c_laws_FnExactEndpointCancel : Con := Con.shape [.one (.dat tEndpoint), .one (.dat I)] [] (fun x => laws_FnExactEndpointCancel x.1 x.2.1) out_laws_FnExactEndpointCancel
theorem ok_laws_FnExactEndpointCancel : ConOk Try.prog 5 c_laws_FnExactEndpointCancel := Con.shape_ok sem_laws_FnExactEndpointCancel

/-! 24 -/
def C_spec_DrawEndpointCancel : Cfg := { T := tab, hint := fun _ => { mu := [2, 5, 8], keepR := [0, 2, 3, 4, 5, 6, 21], res := [2, 3], order := [(5, [(2, .read), (3, .read), (4, .read), (5, .read), (0, .aside [1]), (1, .aside [1]), (6, .forced), (7, .forced), (8, .forced), (9, .forced), (10, .forced)])] }, mode := modeOf [(40, .sub), (47, .sub)] }
noncomputable def O_spec_DrawEndpointCancel : Oracle := Oracle.of [(40, c_spec_l20Endpoint), (41, c_spec_l20Open), (47, c_spec_l20Rd_pick)]
noncomputable def L_spec_DrawEndpointCancel : Loops := Loops.of []
theorem lf_spec_DrawEndpointCancel : LoopsFn Try.prog C_spec_DrawEndpointCancel O_spec_DrawEndpointCancel 24 L_spec_DrawEndpointCancel := LoopsFn.nil' (by kernel_rfl)
def out_spec_DrawEndpointCancel (r : Bool × Int × (List DWaiter)) : AV × Store := outT [.agg [.dat .bool, .all 0], .one (.dat I)] [.data tWaiter] (r.1, r.2.1, r.2.2, ())
theorem w_spec_DrawEndpointCancel (x : FAr [.one (.dat (.sl (.int .u8)))] []) : evBodyK Try.prog C_spec_DrawEndpointCancel O_spec_DrawEndpointCancel L_spec_DrawEndpointCancel 24 (encAr [.one (.dat (.sl (.int .u8)))] [] x).1 (encAr [.one (.dat (.sl (.int .u8)))] [] x).2 (fun v s => some (v, s)) =
    spec_DrawEndpointCancelK x.1 (fun r => some (out_spec_DrawEndpointCancel r)) := by kernel_rfl
theorem sem_spec_DrawEndpointCancel : ∀ x y, (fun x => spec_DrawEndpointCancel x.1) x = some y → SemCall Try.prog 24 (encAr [.one (.dat (.sl (.int .u8)))] [] x).1 (encAr [.one (.dat (.sl (.int .u8)))] [] x).2 (out_spec_DrawEndpointCancel y).1 (out_spec_DrawEndpointCancel y).2 :=
  sem_of folP okP tabP (Oracle.of_ok (Oracle.cons_ok ok_spec_l20Endpoint (Oracle.cons_ok ok_spec_l20Open (Oracle.cons_ok ok_spec_l20Rd_pick Oracle.nil_ok)))) lf_spec_DrawEndpointCancel fun x => (w_spec_DrawEndpointCancel x).trans (spec_DrawEndpointCancel_eq x.1 _)
noncomputable def c_spec_DrawEndpointCancel : Con := Con.shape [.one (.dat (.sl (.int .u8)))] [] (fun x => spec_DrawEndpointCancel x.1) out_spec_DrawEndpointCancel
theorem ok_spec_DrawEndpointCancel : ConOk Try.prog 24 c_spec_DrawEndpointCancel := Con.shape_ok sem_spec_DrawEndpointCancel

/-! 25 -/
def C_laws_sameEnd : Cfg := { T := tab, hint := fun _ => { keepR := [2, 3, 4, 5, 12, 17, 30], res := [4], order := [(6, [(0, .read), (1, .read), (2, .read), (3, .read), (4, .read), (5, .read), (6, .read), (7, .forced), (8, .forced), (9, .forced), (10, .forced)])], keepL := [(0, [2, 3, 5])], keepX := [(0, [2, 3]), (1, [2, 3, 5])] }, mode := fun _ => .borrow }
noncomputable def O_laws_sameEnd : Oracle := Oracle.of []
def sh_laws_sameEnd_l0 : List (Nat × S2) := [(2, .one (.cdat tEndpoint 0)), (3, .one (.cdat tEndpoint 0)), (5, .one (.dat I))]
def bs_laws_sameEnd_l0 : List SB := []
noncomputable def lc_laws_sameEnd_l0 : LCon := LCon.shape sh_laws_sameEnd_l0 bs_laws_sameEnd_l0 laws_sameEnd_l0 (fun a => (.exit 0, encSt [(2, .one (.cdat tEndpoint 0)), (3, .one (.cdat tEndpoint 0))] [] a)) (fun b => encSt [(4, .one (.dat .bool))] [] b)
noncomputable def L_laws_sameEnd : Loops := Loops.of [(0, lc_laws_sameEnd_l0)]
theorem r_laws_sameEnd_l0 (x : FSt sh_laws_sameEnd_l0 bs_laws_sameEnd_l0) : roundK C_laws_sameEnd.T (C_laws_sameEnd.hint 25) C_laws_sameEnd.mode O_laws_sameEnd L_laws_sameEnd 0 (lp Try.prog 25 0) (encSt sh_laws_sameEnd_l0 bs_laws_sameEnd_l0 x) (fun e s => some (e, s)) =
    laws_sameEnd_l0K x.1 x.2.1 x.2.2.1 (fun y => some (Ex.normal, encSt sh_laws_sameEnd_l0 bs_laws_sameEnd_l0 y)) (fun a => some (Ex.exit 0, encSt [(2, .one (.cdat tEndpoint 0)), (3, .one (.cdat tEndpoint 0))] [] a)) (fun b => some (Ex.ret, encSt [(4, .one (.dat .bool))] [] b)) := by kernel_rfl
theorem lo_laws_sameEnd_l0 : LConOk C_laws_sameEnd.T (C_laws_sameEnd.hint 25) C_laws_sameEnd.mode O_laws_sameEnd L_laws_sameEnd 0 (lp Try.prog 25 0) lc_laws_sameEnd_l0 :=
  LCon.shape_ok (fun a => by simp) fun x => (r_laws_sameEnd_l0 x).trans (laws_sameEnd_l0_eq x.1 x.2.1 x.2.2.1 _ _ _)
theorem lf_laws_sameEnd : LoopsFn Try.prog C_laws_sameEnd O_laws_sameEnd 25 L_laws_sameEnd := LoopsFn.all (by kernel_rfl) (by decide) ⟨lo_laws_sameEnd_l0, trivial⟩
def out_laws_sameEnd (r : Bool) : AV × Store := out1 (.one (.dat .bool)) [] (r, ())
theorem w_laws_sameEnd (x : FAr [.one (.dat tEndpoint), .one (.dat tEndpoint)] []) : evBodyK Try.prog C_laws_sameEnd O_laws_sameEnd L_laws_sameEnd 25 (encAr [.one (.dat tEndpoint), .one (.dat tEndpoint)] [] x).1 (encAr [.one (.dat tEndpoint), .one (.dat tEndpoint)] [] x).2 (fun v s => some (v, s)) =
    laws_sameEndK x.1 x.2.1 (fun r => some (out_laws_sameEnd r)) := by kernel_rfl
theorem sem_laws_sameEnd : ∀ x y, (fun x => laws_sameEnd x.1 x.2.1) x = some y → SemCall Try.prog 25 (encAr [.one (.dat tEndpoint), .one (.dat tEndpoint)] [] x).1 (encAr [.one (.dat tEndpoint), .one (.dat tEndpoint)] [] x).2 (out_laws_sameEnd y).1 (out_laws_sameEnd y).2 :=
  sem_of folP okP tabP (Oracle.of_ok Oracle.nil_ok) lf_laws_sameEnd fun x => (w_laws_sameEnd x).trans (laws_sameEnd_eq x.1 x.2.1 _)
noncomputable def c_laws_sameEnd : Con := Con.shape [.one (.dat tEndpoint), .one (.dat tEndpoint)] [] (fun x => laws_sameEnd x.1 x.2.1) out_laws_sameEnd
theorem ok_laws_sameEnd : ConOk Try.prog 25 c_laws_sameEnd := Con.shape_ok sem_laws_sameEnd

/-! 6 -/
def C_laws_FnEndpointCancel : Cfg := { T := tab, hint := fun _ => { mu := [3, 5, 7, 9], keepR := [0, 2, 3, 4, 5, 6, 7, 8, 10, 11, 14, 40, 43, 61], res := [2] }, mode := fun _ => .borrow }
noncomputable def O_laws_FnEndpointCancel : Oracle := Oracle.of [(14, c_spec_EndpointValid), (16, c_impl_EndpointValid), (19, c_laws_alive), (20, c_spec_EndpointCancel), (21, c_impl_EndpointCancel), (24, c_spec_DrawEndpointCancel), (25, c_laws_sameEnd)]
noncomputable def L_laws_FnEndpointCancel : Loops := Loops.of []
theorem lf_laws_FnEndpointCancel : LoopsFn Try.prog C_laws_FnEndpointCancel O_laws_FnEndpointCancel 6 L_laws_FnEndpointCancel := LoopsFn.nil' (by kernel_rfl)
def out_laws_FnEndpointCancel (r : Bool) : AV × Store := out1 (.one (.dat .bool)) [] (r, ())
theorem w_laws_FnEndpointCancel (x : FAr [.one (.dat (.sl (.int .u8)))] []) : evBodyK Try.prog C_laws_FnEndpointCancel O_laws_FnEndpointCancel L_laws_FnEndpointCancel 6 (encAr [.one (.dat (.sl (.int .u8)))] [] x).1 (encAr [.one (.dat (.sl (.int .u8)))] [] x).2 (fun v s => some (v, s)) =
    laws_FnEndpointCancelK x.1 (fun r => some (out_laws_FnEndpointCancel r)) := by kernel_rfl
theorem sem_laws_FnEndpointCancel : ∀ x y, (fun x => laws_FnEndpointCancel x.1) x = some y → SemCall Try.prog 6 (encAr [.one (.dat (.sl (.int .u8)))] [] x).1 (encAr [.one (.dat (.sl (.int .u8)))] [] x).2 (out_laws_FnEndpointCancel y).1 (out_laws_FnEndpointCancel y).2 :=
  sem_of folP okP tabP (Oracle.of_ok (Oracle.cons_ok ok_spec_EndpointValid (Oracle.cons_ok ok_impl_EndpointValid (Oracle.cons_ok ok_laws_alive (Oracle.cons_ok ok_spec_EndpointCancel (Oracle.cons_ok ok_impl_EndpointCancel (Oracle.cons_ok ok_spec_DrawEndpointCancel (Oracle.cons_ok ok_laws_sameEnd Oracle.nil_ok)))))))) lf_laws_FnEndpointCancel fun x => (w_laws_FnEndpointCancel x).trans (laws_FnEndpointCancel_eq x.1 _)
noncomputable def c_laws_FnEndpointCancel : Con := Con.shape [.one (.dat (.sl (.int .u8)))] [] (fun x => laws_FnEndpointCancel x.1) out_laws_FnEndpointCancel
theorem ok_laws_FnEndpointCancel : ConOk Try.prog 6 c_laws_FnEndpointCancel := Con.shape_ok sem_laws_FnEndpointCancel

/-! 67 -/
noncomputable def c_slices_overlaps_Waiter : Con := Con.apart
theorem ok_slices_overlaps_Waiter : ConOk Try.prog 67 c_slices_overlaps_Waiter := Con.apart_ok (A := tWaiter) (tS := 27) (tR := 4) Try.func67 (by kernel_rfl) (by kernel_rfl) (by kernel_rfl) (by kernel_rfl) (tabP _ _ (by kernel_rfl))

/-! 65 -/
def C_slices_Insert_Waiter_room : Cfg := { T := tab, hint := fun _ => { mu := [25, 40], keepR := [0, 1, 2, 6, 7, 8, 9, 16, 22, 31, 68], res := [6], base := 1, order := [(11, [(0, .read), (1, .read), (2, .read), (3, .read), (4, .read), (5, .read), (6, .forced), (7, .forced), (8, .forced)]), (15, [(0, .read), (1, .read), (2, .read), (3, .read), (4, .read), (5, .read), (6, .forced), (7, .forced), (8, .forced)])], own := true }, mode := modeOf [(67, .sub)] }
noncomputable def O_slices_Insert_Waiter_room : Oracle := Oracle.of [(67, c_slices_overlaps_Waiter)]
noncomputable def L_slices_Insert_Waiter_room : Loops := Loops.of []
theorem lf_slices_Insert_Waiter_room : LoopsFn Try.prog C_slices_Insert_Waiter_room O_slices_Insert_Waiter_room 65 L_slices_Insert_Waiter_room := LoopsFn.nil' (by kernel_rfl)
def out_slices_Insert_Waiter_room (r : (List DWaiter)) : AV × Store := out1 (.one (.all 1)) [.dead, .data tWaiter] (r, ())
theorem w_slices_Insert_Waiter_room (x : FAr [.one (.refx 0), .one (.dat I), .one (.dat (.sl tWaiter))] [.data tWaiter]) : evBodyK Try.prog C_slices_Insert_Waiter_room O_slices_Insert_Waiter_room L_slices_Insert_Waiter_room 65 (encAr [.one (.refx 0), .one (.dat I), .one (.dat (.sl tWaiter))] [.data tWaiter] x).1 (encAr [.one (.refx 0), .one (.dat I), .one (.dat (.sl tWaiter))] [.data tWaiter] x).2 (fun v s => some (v, s)) =
    slices_Insert_Waiter_roomK x.1 x.2.1 x.2.2.1 x.2.2.2.1 x.2.2.2.2.1 (fun r => some (out_slices_Insert_Waiter_room r)) := by kernel_rfl
theorem sem_slices_Insert_Waiter_room : ∀ x y, (fun x => slices_Insert_Waiter_room x.1 x.2.1 x.2.2.1 x.2.2.2.1 x.2.2.2.2.1) x = some y → SemCall Try.prog 65 (encAr [.one (.refx 0), .one (.dat I), .one (.dat (.sl tWaiter))] [.data tWaiter] x).1 (encAr [.one (.refx 0), .one (.dat I), .one (.dat (.sl tWaiter))] [.data tWaiter] x).2 (out_slices_Insert_Waiter_room y).1 (out_slices_Insert_Waiter_room y).2 :=
  sem_of folP okP tabP (Oracle.of_ok (Oracle.cons_ok ok_slices_overlaps_Waiter Oracle.nil_ok)) lf_slices_Insert_Waiter_room fun x => (w_slices_Insert_Waiter_room x).trans (slices_Insert_Waiter_room_eq x.1 x.2.1 x.2.2.1 x.2.2.2.1 x.2.2.2.2.1 _)
noncomputable def c_slices_Insert_Waiter_room : Con := Con.shape [.one (.refx 0), .one (.dat I), .one (.dat (.sl tWaiter))] [.data tWaiter] (fun x => slices_Insert_Waiter_room x.1 x.2.1 x.2.2.1 x.2.2.2.1 x.2.2.2.2.1) out_slices_Insert_Waiter_room
theorem ok_slices_Insert_Waiter_room : ConOk Try.prog 65 c_slices_Insert_Waiter_room := Con.shape_ok sem_slices_Insert_Waiter_room

/-! 65 -/
def out_slices_Insert_Waiter (r : (List DWaiter)) : AV × Store := out1 (.one (.all 1)) [.dead, .data tWaiter] (r, ())
theorem sem_slices_Insert_Waiter : ∀ x y, (fun x => slices_Insert_Waiter x.1 x.2.1 x.2.2.1) x = some y → SemCall Try.prog 65 (encAr [.one (.all 0), .one (.dat I), .one (.dat (.sl tWaiter))] [.data tWaiter] x).1 (encAr [.one (.all 0), .one (.dat I), .one (.dat (.sl tWaiter))] [.data tWaiter] x).2 (out_slices_Insert_Waiter y).1 (out_slices_Insert_Waiter y).2 := fun x y h =>
  sem_room rfl fun js => sem_slices_Insert_Waiter_room (x.2.2.1.length, (x.2.2.1 ++ js).length, x.1, x.2.1, x.2.2.1 ++ js, ()) y (slices_Insert_Waiter_roomy js h)
noncomputable def c_slices_Insert_Waiter : Con := Con.shape [.one (.all 0), .one (.dat I), .one (.dat (.sl tWaiter))] [.data tWaiter] (fun x => slices_Insert_Waiter x.1 x.2.1 x.2.2.1) out_slices_Insert_Waiter
theorem ok_slices_Insert_Waiter : ConOk Try.prog 65 c_slices_Insert_Waiter := Con.shape_ok sem_slices_Insert_Waiter

/-! 50 -/
def C_impl_Endpoint_join : Cfg := { T := tab, hint := fun _ => { mu := [6, 29, 34], keepR := [1, 3, 5, 6, 7, 23], res := [6], order := [(2, [(0, .read), (1, .forced), (2, .forced), (3, .forced), (4, .forced), (5, .forced), (6, .read), (7, .read), (8, .read), (9, .read), (10, .read), (11, .read), (12, .forced), (13, .forced), (14, .forced), (15, .forced)]), (4, [(1, .read), (2, .read), (4, .read), (5, .read), (6, .read), (0, .pure), (3, .forced), (7, .forced), (8, .forced), (9, .forced), (10, .forced)])], keepL := [(0, [1, 3, 5, 6, 7])], keepX := [(0, [1, 3, 5, 6, 7]), (1, [1, 3, 5, 6, 7])] }, mode := modeOf [(65, .sub)] }
noncomputable def O_impl_Endpoint_join : Oracle := Oracle.of [(43, c_impl_clone_Waiter), (63, c_slices_Clone_Waiter), (65, c_slices_Insert_Waiter)]
def sh_impl_Endpoint_join_l0 : List (Nat × S2) := [(1, .one (.dat .bool)), (3, .one (.cdat tEndpoint 0)), (5, .one (.cdat tWaiter 0)), (6, .one (.ptr 0 0 0)), (7, .one (.dat I))]
def bs_impl_Endpoint_join_l0 : List SB := [.var [.dat .bool, .e0 tWaiter]]
noncomputable def lc_impl_Endpoint_join_l0 : LCon := LCon.shape1 sh_impl_Endpoint_join_l0 bs_impl_Endpoint_join_l0 impl_Endpoint_join_l0 (fun a => (.exit 0, encSt [(1, .one (.dat .bool)), (3, .one (.cdat tEndpoint 0)), (5, .one (.cdat tWaiter 0)), (6, .one (.ptr 0 0 0)), (7, .one (.dat I))] [.var [.dat .bool, .e0 tWaiter]] a))
noncomputable def L_impl_Endpoint_join : Loops := Loops.of [(0, lc_impl_Endpoint_join_l0)]
theorem r_impl_Endpoint_join_l0 (x : FSt sh_impl_Endpoint_join_l0 bs_impl_Endpoint_join_l0) : roundK C_impl_Endpoint_join.T (C_impl_Endpoint_join.hint 50) C_impl_Endpoint_join.mode O_impl_Endpoint_join L_impl_Endpoint_join 0 (lp Try.prog 50 0) (encSt sh_impl_Endpoint_join_l0 bs_impl_Endpoint_join_l0 x) (fun e s => some (e, s)) =
    impl_Endpoint_join_l0K x.1 x.2.1 x.2.2.1 x.2.2.2.1 x.2.2.2.2.1 (fun y => some (Ex.normal, encSt sh_impl_Endpoint_join_l0 bs_impl_Endpoint_join_l0 y)) (fun a => some (Ex.exit 0, encSt [(1, .one (.dat .bool)), (3, .one (.cdat tEndpoint 0)), (5, .one (.cdat tWaiter 0)), (6, .one (.ptr 0 0 0)), (7, .one (.dat I))] [.var [.dat .bool, .e0 tWaiter]] a)) := by kernel_rfl
theorem lo_impl_Endpoint_join_l0 : LConOk C_impl_Endpoint_join.T (C_impl_Endpoint_join.hint 50) C_impl_Endpoint_join.mode O_impl_Endpoint_join L_impl_Endpoint_join 0 (lp Try.prog 50 0) lc_impl_Endpoint_join_l0 :=
  LCon.shape1_ok (fun a => by simp) fun x => (r_impl_Endpoint_join_l0 x).trans (impl_Endpoint_join_l0_eq x.1 x.2.1 x.2.2.1 x.2.2.2.1 x.2.2.2.2.1 _ _)
theorem lf_impl_Endpoint_join : LoopsFn Try.prog C_impl_Endpoint_join O_impl_Endpoint_join 50 L_impl_Endpoint_join := LoopsFn.all (by kernel_rfl) (by decide) ⟨lo_impl_Endpoint_join_l0, trivial⟩
def out_impl_Endpoint_join (r : Bool × (List DWaiter)) : AV × Store := out1 (.agg [.dat .bool, .all 0]) [.data tWaiter] (r.1, r.2, ())
theorem w_impl_Endpoint_join (x : FAr [.one (.dat tEndpoint), .one (.dat .bool), .one (.dat tWaiter)] []) : evBodyK Try.prog C_impl_Endpoint_join O_impl_Endpoint_join L_impl_Endpoint_join 50 (encAr [.one (.dat tEndpoint), .one (.dat .bool), .one (.dat tWaiter)] [] x).1 (encAr [.one (.dat tEndpoint), .one (.dat .bool), .one (.dat tWaiter)] [] x).2 (fun v s => some (v, s)) =
    impl_Endpoint_joinK x.1 x.2.1 x.2.2.1 (fun r => some (out_impl_Endpoint_join r)) := by kernel_rfl
theorem sem_impl_Endpoint_join : ∀ x y, (fun x => impl_Endpoint_join x.1 x.2.1 x.2.2.1) x = some y → SemCall Try.prog 50 (encAr [.one (.dat tEndpoint), .one (.dat .bool), .one (.dat tWaiter)] [] x).1 (encAr [.one (.dat tEndpoint), .one (.dat .bool), .one (.dat tWaiter)] [] x).2 (out_impl_Endpoint_join y).1 (out_impl_Endpoint_join y).2 :=
  sem_of folP okP tabP (Oracle.of_ok (Oracle.cons_ok ok_impl_clone_Waiter (Oracle.cons_ok ok_slices_Clone_Waiter (Oracle.cons_ok ok_slices_Insert_Waiter Oracle.nil_ok)))) lf_impl_Endpoint_join fun x => (w_impl_Endpoint_join x).trans (impl_Endpoint_join_eq x.1 x.2.1 x.2.2.1 _)
noncomputable def c_impl_Endpoint_join : Con := Con.shape [.one (.dat tEndpoint), .one (.dat .bool), .one (.dat tWaiter)] [] (fun x => impl_Endpoint_join x.1 x.2.1 x.2.2.1) out_impl_Endpoint_join
theorem ok_impl_Endpoint_join : ConOk Try.prog 50 c_impl_Endpoint_join := Con.shape_ok sem_impl_Endpoint_join

/-! 28 -/
def C_impl_EndpointSend : Cfg := { T := tab, hint := fun _ => { mu := [4, 34, 42], keepR := [2, 3, 4, 5, 6, 23], res := [4, 5], order := [(4, [(0, .read), (2, .pure), (3, .pure), (4, .pure), (5, .pure), (6, .pure), (1, .forced), (7, .forced), (8, .forced)])], keepX := [(0, [2, 3, 4])], fillR := true }, mode := fun _ => .borrow }
noncomputable def O_impl_EndpointSend : Oracle := Oracle.of [(16, c_impl_EndpointValid), (37, c_impl_Waiter_may), (38, c_impl_Endpoint_at), (44, c_impl_Endpoint_without), (50, c_impl_Endpoint_join)]
noncomputable def L_impl_EndpointSend : Loops := Loops.of []
theorem lf_impl_EndpointSend : LoopsFn Try.prog C_impl_EndpointSend O_impl_EndpointSend 28 L_impl_EndpointSend := LoopsFn.nil' (by kernel_rfl)
def out_impl_EndpointSend (r : Bool × Int × (List DWaiter)) : AV × Store := outT [.agg [.dat .bool, .all 0], .one (.dat I)] [.data tWaiter] (r.1, r.2.1, r.2.2, ())
theorem w_impl_EndpointSend (x : FAr [.one (.dat tEndpoint), .one (.dat tWaiter)] []) : evBodyK Try.prog C_impl_EndpointSend O_impl_EndpointSend L_impl_EndpointSend 28 (encAr [.one (.dat tEndpoint), .one (.dat tWaiter)] [] x).1 (encAr [.one (.dat tEndpoint), .one (.dat tWaiter)] [] x).2 (fun v s => some (v, s)) =
    impl_EndpointSendK x.1 x.2.1 (fun r => some (out_impl_EndpointSend r)) := by kernel_rfl
theorem sem_impl_EndpointSend : ∀ x y, (fun x => impl_EndpointSend x.1 x.2.1) x = some y → SemCall Try.prog 28 (encAr [.one (.dat tEndpoint), .one (.dat tWaiter)] [] x).1 (encAr [.one (.dat tEndpoint), .one (.dat tWaiter)] [] x).2 (out_impl_EndpointSend y).1 (out_impl_EndpointSend y).2 :=
  sem_of folP okP tabP (Oracle.of_ok (Oracle.cons_ok ok_impl_EndpointValid (Oracle.cons_ok ok_impl_Waiter_may (Oracle.cons_ok ok_impl_Endpoint_at (Oracle.cons_ok ok_impl_Endpoint_without (Oracle.cons_ok ok_impl_Endpoint_join Oracle.nil_ok)))))) lf_impl_EndpointSend fun x => (w_impl_EndpointSend x).trans (impl_EndpointSend_eq x.1 x.2.1 _)
noncomputable def c_impl_EndpointSend : Con := Con.shape [.one (.dat tEndpoint), .one (.dat tWaiter)] [] (fun x => impl_EndpointSend x.1 x.2.1) out_impl_EndpointSend
theorem ok_impl_EndpointSend : ConOk Try.prog 28 c_impl_EndpointSend := Con.shape_ok sem_impl_EndpointSend

/-! 30 -/
def C_impl_EndpointTake : Cfg := { T := tab, hint := fun _ => { mu := [6, 7, 9, 34, 41], keepR := [1, 2, 3, 6, 7, 8, 9, 13, 30], res := [6, 7, 8], order := [(5, [(0, .read), (2, .pure), (3, .pure), (4, .pure), (5, .pure), (1, .forced), (6, .forced), (7, .forced), (8, .forced)])], keepX := [(0, [3, 6, 7, 9])], fillR := true }, mode := fun _ => .borrow }
noncomputable def O_impl_EndpointTake : Oracle := Oracle.of [(16, c_impl_EndpointValid), (37, c_impl_Waiter_may), (38, c_impl_Endpoint_at), (44, c_impl_Endpoint_without), (50, c_impl_Endpoint_join)]
noncomputable def L_impl_EndpointTake : Loops := Loops.of []
theorem lf_impl_EndpointTake : LoopsFn Try.prog C_impl_EndpointTake O_impl_EndpointTake 30 L_impl_EndpointTake := LoopsFn.nil' (by kernel_rfl)
def out_impl_EndpointTake (r : Bool × DWaiter × Bool × (List DWaiter)) : AV × Store := outT [.agg [.dat .bool, .all 0], .one (.dat tWaiter), .one (.dat .bool)] [.data tWaiter] (r.1, r.2.1, r.2.2.1, r.2.2.2, ())
theorem w_impl_EndpointTake (x : FAr [.one (.dat tEndpoint), .one (.dat I), .one (.dat I)] []) : evBodyK Try.prog C_impl_EndpointTake O_impl_EndpointTake L_impl_EndpointTake 30 (encAr [.one (.dat tEndpoint), .one (.dat I), .one (.dat I)] [] x).1 (encAr [.one (.dat tEndpoint), .one (.dat I), .one (.dat I)] [] x).2 (fun v s => some (v, s)) =
    impl_EndpointTakeK x.1 x.2.1 x.2.2.1 (fun r => some (out_impl_EndpointTake r)) := by kernel_rfl
theorem sem_impl_EndpointTake : ∀ x y, (fun x => impl_EndpointTake x.1 x.2.1 x.2.2.1) x = some y → SemCall Try.prog 30 (encAr [.one (.dat tEndpoint), .one (.dat I), .one (.dat I)] [] x).1 (encAr [.one (.dat tEndpoint), .one (.dat I), .one (.dat I)] [] x).2 (out_impl_EndpointTake y).1 (out_impl_EndpointTake y).2 :=
  sem_of folP okP tabP (Oracle.of_ok (Oracle.cons_ok ok_impl_EndpointValid (Oracle.cons_ok ok_impl_Waiter_may (Oracle.cons_ok ok_impl_Endpoint_at (Oracle.cons_ok ok_impl_Endpoint_without (Oracle.cons_ok ok_impl_Endpoint_join Oracle.nil_ok)))))) lf_impl_EndpointTake fun x => (w_impl_EndpointTake x).trans (impl_EndpointTake_eq x.1 x.2.1 x.2.2.1 _)
noncomputable def c_impl_EndpointTake : Con := Con.shape [.one (.dat tEndpoint), .one (.dat I), .one (.dat I)] [] (fun x => impl_EndpointTake x.1 x.2.1 x.2.2.1) out_impl_EndpointTake
theorem ok_impl_EndpointTake : ConOk Try.prog 30 c_impl_EndpointTake := Con.shape_ok sem_impl_EndpointTake

/-! 8 -/
def C_laws_FnExactEndpointTake : Cfg := { T := tab, hint := fun _ => { mu := [8, 9, 11, 12, 13, 18, 19, 36, 41], keepR := [1, 2, 3, 6, 7, 8, 9, 10, 11, 12, 13, 14, 15, 16, 17, 18, 19, 20, 25, 59, 64, 86, 94, 97, 121, 126, 129], res := [6], order := [(10, [(0, .read), (1, .forced), (2, .forced), (3, .forced), (4, .forced)])] }, mode := modeOf [(22, .sub)] }
noncomputable def O_laws_FnExactEndpointTake : Oracle := Oracle.of [(13, c_laws_szEndpoint), (15, c_laws_toEndpoint), (17, c_laws_eqEndpoint), (22, c_laws_markEndpoint), (23, c_laws_heldEndpoint), (29, c_spec_EndpointTake), (30, c_impl_EndpointTake), (31, c_laws_eqWaiter)]
noncomputable def L_laws_FnExactEndpointTake : Loops := Loops.of []
theorem lf_laws_FnExactEndpointTake : LoopsFn Try.prog C_laws_FnExactEndpointTake O_laws_FnExactEndpointTake 8 L_laws_FnExactEndpointTake := LoopsFn.nil' (by kernel_rfl)
def out_laws_FnExactEndpointTake (r : Bool) : AV × Store := out1 (.one (.dat .bool)) [] (r, ())
theorem w_laws_FnExactEndpointTake (x : FAr [.one (.dat tEndpoint), .one (.dat I), .one (.dat I)] []) : evBodyK Try.prog C_laws_FnExactEndpointTake O_laws_FnExactEndpointTake L_laws_FnExactEndpointTake 8 (encAr [.one (.dat tEndpoint), .one (.dat I), .one (.dat I)] [] x).1 (encAr [.one (.dat tEndpoint), .one (.dat I), .one (.dat I)] [] x).2 (fun v s => some (v, s)) =
    laws_FnExactEndpointTakeK x.1 x.2.1 x.2.2.1 (fun r => some (out_laws_FnExactEndpointTake r)) := by kernel_rfl
theorem sem_laws_FnExactEndpointTake : ∀ x y, (fun x => laws_FnExactEndpointTake x.1 x.2.1 x.2.2.1) x = some y → SemCall Try.prog 8 (encAr [.one (.dat tEndpoint), .one (.dat I), .one (.dat I)] [] x).1 (encAr [.one (.dat tEndpoint), .one (.dat I), .one (.dat I)] [] x).2 (out_laws_FnExactEndpointTake y).1 (out_laws_FnExactEndpointTake y).2 :=
  sem_of folP okP tabP (Oracle.of_ok (Oracle.cons_ok ok_laws_szEndpoint (Oracle.cons_ok ok_laws_toEndpoint (Oracle.cons_ok ok_laws_eqEndpoint (Oracle.cons_ok ok_laws_markEndpoint (Oracle.cons_ok ok_laws_heldEndpoint (Oracle.cons_ok ok_spec_EndpointTake (Oracle.cons_ok ok_impl_EndpointTake (Oracle.cons_ok ok_laws_eqWaiter Oracle.nil_ok))))))))) lf_laws_FnExactEndpointTake fun x => (w_laws_FnExactEndpointTake x).trans (laws_FnExactEndpointTake_eq x.1 x.2.1 x.2.2.1 _)
noncomputable def c_laws_FnExactEndpointTake : Con := Con.shape [.one (.dat tEndpoint), .one (.dat I), .one (.dat I)] [] (fun x => laws_FnExactEndpointTake x.1 x.2.1 x.2.2.1) out_laws_FnExactEndpointTake
theorem ok_laws_FnExactEndpointTake : ConOk Try.prog 8 c_laws_FnExactEndpointTake := Con.shape_ok sem_laws_FnExactEndpointTake

/-! 32 -/
def C_spec_DrawEndpointSend : Cfg := { T := tab, hint := fun _ => { mu := [2, 3, 5, 7], keepR := [0, 2, 3, 4, 5], res := [2, 3], order := [(3, [(1, .read), (0, .aside [2]), (2, .forced), (3, .forced), (4, .forced)])] }, mode := modeOf [(40, .sub), (51, .sub)] }
noncomputable def O_spec_DrawEndpointSend : Oracle := Oracle.of [(40, c_spec_l20Endpoint), (41, c_spec_l20Open), (51, c_spec_l20Waiter)]
noncomputable def L_spec_DrawEndpointSend : Loops := Loops.of []
theorem lf_spec_DrawEndpointSend : LoopsFn Try.prog C_spec_DrawEndpointSend O_spec_DrawEndpointSend 32 L_spec_DrawEndpointSend := LoopsFn.nil' (by kernel_rfl)
def out_spec_DrawEndpointSend (r : Bool × DWaiter × (List DWaiter)) : AV × Store := outT [.agg [.dat .bool, .all 0], .one (.dat tWaiter)] [.data tWaiter] (r.1, r.2.1, r.2.2, ())
theorem w_spec_DrawEndpointSend (x : FAr [.one (.dat (.sl (.int .u8)))] []) : evBodyK Try.prog C_spec_DrawEndpointSend O_spec_DrawEndpointSend L_spec_DrawEndpointSend 32 (encAr [.one (.dat (.sl (.int .u8)))] [] x).1 (encAr [.one (.dat (.sl (.int .u8)))] [] x).2 (fun v s => some (v, s)) =
    spec_DrawEndpointSendK x.1 (fun r => some (out_spec_DrawEndpointSend r)) := by kernel_rfl
theorem sem_spec_DrawEndpointSend : ∀ x y, (fun x => spec_DrawEndpointSend x.1) x = some y → SemCall Try.prog 32 (encAr [.one (.dat (.sl (.int .u8)))] [] x).1 (encAr [.one (.dat (.sl (.int .u8)))] [] x).2 (out_spec_DrawEndpointSend y).1 (out_spec_DrawEndpointSend y).2 :=
  sem_of folP okP tabP (Oracle.of_ok (Oracle.cons_ok ok_spec_l20Endpoint (Oracle.cons_ok ok_spec_l20Open (Oracle.cons_ok ok_spec_l20Waiter Oracle.nil_ok)))) lf_spec_DrawEndpointSend fun x => (w_spec_DrawEndpointSend x).trans (spec_DrawEndpointSend_eq x.1 _)
noncomputable def c_spec_DrawEndpointSend : Con := Con.shape [.one (.dat (.sl (.int .u8)))] [] (fun x => spec_DrawEndpointSend x.1) out_spec_DrawEndpointSend
theorem ok_spec_DrawEndpointSend : ConOk Try.prog 32 c_spec_DrawEndpointSend := Con.shape_ok sem_spec_DrawEndpointSend

/-! 9 -/
def C_laws_FnEndpointOrder : Cfg := { T := tab, hint := fun _ => { mu := [3, 4, 5, 7, 9, 10, 11, 13, 16, 17, 19, 20], keepR := [0, 2, 4, 5, 7, 9, 10, 11, 13, 15, 17, 20, 24, 45, 54], res := [2] }, mode := fun _ => .borrow }
noncomputable def O_laws_FnEndpointOrder : Oracle := Oracle.of [(19, c_laws_alive), (25, c_laws_sameEnd), (26, c_spec_EndpointSend), (28, c_impl_EndpointSend), (30, c_impl_EndpointTake), (32, c_spec_DrawEndpointSend)]
noncomputable def L_laws_FnEndpointOrder : Loops := Loops.of []
theorem lf_laws_FnEndpointOrder : LoopsFn Try.prog C_laws_FnEndpointOrder O_laws_FnEndpointOrder 9 L_laws_FnEndpointOrder := LoopsFn.nil' (by kernel_rfl)
def out_laws_FnEndpointOrder (r : Bool) : AV × Store := out1 (.one (.dat .bool)) [] (r, ())
theorem w_laws_FnEndpointOrder (x : FAr [.one (.dat (.sl (.int .u8)))] []) : evBodyK Try.prog C_laws_FnEndpointOrder O_laws_FnEndpointOrder L_laws_FnEndpointOrder 9 (encAr [.one (.dat (.sl (.int .u8)))] [] x).1 (encAr [.one (.dat (.sl (.int .u8)))] [] x).2 (fun v s => some (v, s)) =
    laws_FnEndpointOrderK x.1 (fun r => some (out_laws_FnEndpointOrder r)) := by kernel_rfl
theorem sem_laws_FnEndpointOrder : ∀ x y, (fun x => laws_FnEndpointOrder x.1) x = some y → SemCall Try.prog 9 (encAr [.one (.dat (.sl (.int .u8)))] [] x).1 (encAr [.one (.dat (.sl (.int .u8)))] [] x).2 (out_laws_FnEndpointOrder y).1 (out_laws_FnEndpointOrder y).2 :=
  sem_of folP okP tabP (Oracle.of_ok (Oracle.cons_ok ok_laws_alive (Oracle.cons_ok ok_laws_sameEnd (Oracle.cons_ok ok_spec_EndpointSend (Oracle.cons_ok ok_impl_EndpointSend (Oracle.cons_ok ok_impl_EndpointTake (Oracle.cons_ok ok_spec_DrawEndpointSend Oracle.nil_ok))))))) lf_laws_FnEndpointOrder fun x => (w_laws_FnEndpointOrder x).trans (laws_FnEndpointOrder_eq x.1 _)
noncomputable def c_laws_FnEndpointOrder : Con := Con.shape [.one (.dat (.sl (.int .u8)))] [] (fun x => laws_FnEndpointOrder x.1) out_laws_FnEndpointOrder
theorem ok_laws_FnEndpointOrder : ConOk Try.prog 9 c_laws_FnEndpointOrder := Con.shape_ok sem_laws_FnEndpointOrder

/-! 10 -/
def C_laws_FnEndpointPair : Cfg := { T := tab, hint := fun _ => { mu := [3, 4, 5, 7, 9, 10], keepR := [0, 2, 4, 5, 6, 7, 8, 9, 10, 11, 14, 40, 44], res := [2] }, mode := fun _ => .borrow }
noncomputable def O_laws_FnEndpointPair : Oracle := Oracle.of [(19, c_laws_alive), (25, c_laws_sameEnd), (26, c_spec_EndpointSend), (28, c_impl_EndpointSend), (30, c_impl_EndpointTake), (32, c_spec_DrawEndpointSend)]
noncomputable def L_laws_FnEndpointPair : Loops := Loops.of []
theorem lf_laws_FnEndpointPair : LoopsFn Try.prog C_laws_FnEndpointPair O_laws_FnEndpointPair 10 L_laws_FnEndpointPair := LoopsFn.nil' (by kernel_rfl)
def out_laws_FnEndpointPair (r : Bool) : AV × Store := out1 (.one (.dat .bool)) [] (r, ())
theorem w_laws_FnEndpointPair (x : FAr [.one (.dat (.sl (.int .u8)))] []) : evBodyK Try.prog C_laws_FnEndpointPair O_laws_FnEndpointPair L_laws_FnEndpointPair 10 (encAr [.one (.dat (.sl (.int .u8)))] [] x).1 (encAr [.one (.dat (.sl (.int .u8)))] [] x).2 (fun v s => some (v, s)) =
    laws_FnEndpointPairK x.1 (fun r => some (out_laws_FnEndpointPair r)) := by kernel_rfl
theorem sem_laws_FnEndpointPair : ∀ x y, (fun x => laws_FnEndpointPair x.1) x = some y → SemCall Try.prog 10 (encAr [.one (.dat (.sl (.int .u8)))] [] x).1 (encAr [.one (.dat (.sl (.int .u8)))] [] x).2 (out_laws_FnEndpointPair y).1 (out_laws_FnEndpointPair y).2 :=
  sem_of folP okP tabP (Oracle.of_ok (Oracle.cons_ok ok_laws_alive (Oracle.cons_ok ok_laws_sameEnd (Oracle.cons_ok ok_spec_EndpointSend (Oracle.cons_ok ok_impl_EndpointSend (Oracle.cons_ok ok_impl_EndpointTake (Oracle.cons_ok ok_spec_DrawEndpointSend Oracle.nil_ok))))))) lf_laws_FnEndpointPair fun x => (w_laws_FnEndpointPair x).trans (laws_FnEndpointPair_eq x.1 _)
noncomputable def c_laws_FnEndpointPair : Con := Con.shape [.one (.dat (.sl (.int .u8)))] [] (fun x => laws_FnEndpointPair x.1) out_laws_FnEndpointPair
theorem ok_laws_FnEndpointPair : ConOk Try.prog 10 c_laws_FnEndpointPair := Con.shape_ok sem_laws_FnEndpointPair

/-! 11 -/
def C_laws_FnEndpointSend : Cfg := { T := tab, hint := fun _ => { mu := [3, 4, 5, 7, 11], keepR := [0, 2, 3, 4, 5, 6, 7, 8, 9, 10, 11, 12, 15, 41, 54, 67, 96, 105, 120], res := [2], order := [(11, [(0, .forced), (1, .forced), (2, .forced), (3, .forced), (4, .read), (5, .forced), (6, .forced), (7, .forced), (8, .forced), (9, .forced), (10, .forced), (11, .forced), (12, .forced), (13, .read), (14, .forced), (15, .forced), (16, .forced), (17, .forced), (18, .forced), (19, .forced), (20, .forced), (21, .forced), (22, .forced), (23, .forced), (24, .forced)]), (16, [(0, .read), (1, .read), (2, .read), (3, .read), (4, .read), (5, .forced), (6, .forced)]), (18, [(0, .forced), (1, .forced), (2, .forced), (3, .read), (4, .read), (5, .read), (6, .read), (7, .read), (8, .read), (9, .forced), (10, .forced), (11, .forced), (12, .forced)])], keepL := [(0, [3, 4, 5, 9, 10])], keepX := [(0, [3, 4, 5, 9]), (1, [3, 4, 5, 9, 10])] }, mode := fun _ => .borrow }
noncomputable def O_laws_FnEndpointSend : Oracle := Oracle.of [(14, c_spec_EndpointValid), (16, c_impl_EndpointValid), (19, c_laws_alive), (21, c_impl_EndpointCancel), (25, c_laws_sameEnd), (26, c_spec_EndpointSend), (28, c_impl_EndpointSend), (32, c_spec_DrawEndpointSend)]
def sh_laws_FnEndpointSend_l0 : List (Nat × S2) := [(3, .one (.ptr 0 0 0)), (4, .one (.ptr 1 0 0)), (5, .one (.ptr 2 0 0)), (9, .one (.dat I)), (10, .one (.dat I))]
def bs_laws_FnEndpointSend_l0 : List SB := [.var [.dat .bool, .dat (.sl tWaiter)], .one tWaiter, .var [.dat .bool, .dat (.sl tWaiter)]]
noncomputable def lc_laws_FnEndpointSend_l0 : LCon := LCon.shape sh_laws_FnEndpointSend_l0 bs_laws_FnEndpointSend_l0 laws_FnEndpointSend_l0 (fun a => (.exit 0, encSt [(3, .one (.ptr 0 0 0)), (4, .one (.ptr 1 0 0)), (5, .one (.ptr 2 0 0)), (9, .one (.dat I))] [.var [.dat .bool, .dat (.sl tWaiter)], .one tWaiter, .var [.dat .bool, .dat (.sl tWaiter)]] a)) (fun b => encSt [(2, .one (.dat .bool))] [] b)
noncomputable def L_laws_FnEndpointSend : Loops := Loops.of [(0, lc_laws_FnEndpointSend_l0)]
theorem r_laws_FnEndpointSend_l0 (x : FSt sh_laws_FnEndpointSend_l0 bs_laws_FnEndpointSend_l0) : roundK C_laws_FnEndpointSend.T (C_laws_FnEndpointSend.hint 11) C_laws_FnEndpointSend.mode O_laws_FnEndpointSend L_laws_FnEndpointSend 0 (lp Try.prog 11 0) (encSt sh_laws_FnEndpointSend_l0 bs_laws_FnEndpointSend_l0 x) (fun e s => some (e, s)) =
    laws_FnEndpointSend_l0K x.1 x.2.1 x.2.2.1 x.2.2.2.1 x.2.2.2.2.1 x.2.2.2.2.2.1 x.2.2.2.2.2.2.1 (fun y => some (Ex.normal, encSt sh_laws_FnEndpointSend_l0 bs_laws_FnEndpointSend_l0 y)) (fun a => some (Ex.exit 0, encSt [(3, .one (.ptr 0 0 0)), (4, .one (.ptr 1 0 0)), (5, .one (.ptr 2 0 0)), (9, .one (.dat I))] [.var [.dat .bool, .dat (.sl tWaiter)], .one tWaiter, .var [.dat .bool, .dat (.sl tWaiter)]] a)) (fun b => some (Ex.ret, encSt [(2, .one (.dat .bool))] [] b)) := by kernel_rfl
theorem lo_laws_FnEndpointSend_l0 : LConOk C_laws_FnEndpointSend.T (C_laws_FnEndpointSend.hint 11) C_laws_FnEndpointSend.mode O_laws_FnEndpointSend L_laws_FnEndpointSend 0 (lp Try.prog 11 0) lc_laws_FnEndpointSend_l0 :=
  LCon.shape_ok (fun a => by simp) fun x => (r_laws_FnEndpointSend_l0 x).trans (laws_FnEndpointSend_l0_eq x.1 x.2.1 x.2.2.1 x.2.2.2.1 x.2.2.2.2.1 x.2.2.2.2.2.1 x.2.2.2.2.2.2.1 _ _ _)
theorem lf_laws_FnEndpointSend : LoopsFn Try.prog C_laws_FnEndpointSend O_laws_FnEndpointSend 11 L_laws_FnEndpointSend := LoopsFn.all (by kernel_rfl) (by decide) ⟨lo_laws_FnEndpointSend_l0, trivial⟩
def out_laws_FnEndpointSend (r : Bool) : AV × Store := out1 (.one (.dat .bool)) [] (r, ())
theorem w_laws_FnEndpointSend (x : FAr [.one (.dat (.sl (.int .u8)))] []) : evBodyK Try.prog C_laws_FnEndpointSend O_laws_FnEndpointSend L_laws_FnEndpointSend 11 (encAr [.one (.dat (.sl (.int .u8)))] [] x).1 (encAr [.one (.dat (.sl (.int .u8)))] [] x).2 (fun v s => some (v, s)) =
    laws_FnEndpointSendK x.1 (fun r => some (out_laws_FnEndpointSend r)) := by kernel_rfl
theorem sem_laws_FnEndpointSend : ∀ x y, (fun x => laws_FnEndpointSend x.1) x = some y → SemCall Try.prog 11 (encAr [.one (.dat (.sl (.int .u8)))] [] x).1 (encAr [.one (.dat (.sl (.int .u8)))] [] x).2 (out_laws_FnEndpointSend y).1 (out_laws_FnEndpointSend y).2 :=
  sem_of folP okP tabP (Oracle.of_ok (Oracle.cons_ok ok_spec_EndpointValid (Oracle.cons_ok ok_impl_EndpointValid (Oracle.cons_ok ok_laws_alive (Oracle.cons_ok ok_impl_EndpointCancel (Oracle.cons_ok ok_laws_sameEnd (Oracle.cons_ok ok_spec_EndpointSend (Oracle.cons_ok ok_impl_EndpointSend (Oracle.cons_ok ok_spec_DrawEndpointSend Oracle.nil_ok))))))))) lf_laws_FnEndpointSend fun x => (w_laws_FnEndpointSend x).trans (laws_FnEndpointSend_eq x.1 _)
noncomputable def c_laws_FnEndpointSend : Con := Con.shape [.one (.dat (.sl (.int .u8)))] [] (fun x => laws_FnEndpointSend x.1) out_laws_FnEndpointSend
theorem ok_laws_FnEndpointSend : ConOk Try.prog 11 c_laws_FnEndpointSend := Con.shape_ok sem_laws_FnEndpointSend

/-! 33 -/
def C_spec_DrawEndpointTake : Cfg := { T := tab, hint := fun _ => { mu := [2, 6, 7, 9], keepR := [0, 2, 3, 4, 5, 6, 7], res := [2, 3, 4], order := [(4, [(0, .read), (1, .aside [0]), (2, .aside [0]), (3, .aside [0]), (4, .aside [0]), (5, .forced), (6, .forced), (7, .forced)])] }, mode := modeOf [(40, .sub), (51, .sub)] }
noncomputable def O_spec_DrawEndpointTake : Oracle := Oracle.of [(40, c_spec_l20Endpoint), (41, c_spec_l20Open), (51, c_spec_l20Waiter)]
noncomputable def L_spec_DrawEndpointTake : Loops := Loops.of []
theorem lf_spec_DrawEndpointTake : LoopsFn Try.prog C_spec_DrawEndpointTake O_spec_DrawEndpointTake 33 L_spec_DrawEndpointTake := LoopsFn.nil' (by kernel_rfl)
def out_spec_DrawEndpointTake (r : Bool × Int × Int × (List DWaiter)) : AV × Store := outT [.agg [.dat .bool, .all 0], .one (.dat I), .one (.dat I)] [.data tWaiter] (r.1, r.2.1, r.2.2.1, r.2.2.2, ())
theorem w_spec_DrawEndpointTake (x : FAr [.one (.dat (.sl (.int .u8)))] []) : evBodyK Try.prog C_spec_DrawEndpointTake O_spec_DrawEndpointTake L_spec_DrawEndpointTake 33 (encAr [.one (.dat (.sl (.int .u8)))] [] x).1 (encAr [.one (.dat (.sl (.int .u8)))] [] x).2 (fun v s => some (v, s)) =
    spec_DrawEndpointTakeK x.1 (fun r => some (out_spec_DrawEndpointTake r)) := by kernel_rfl
theorem sem_spec_DrawEndpointTake : ∀ x y, (fun x => spec_DrawEndpointTake x.1) x = some y → SemCall Try.prog 33 (encAr [.one (.dat (.sl (.int .u8)))] [] x).1 (encAr [.one (.dat (.sl (.int .u8)))] [] x).2 (out_spec_DrawEndpointTake y).1 (out_spec_DrawEndpointTake y).2 :=
  sem_of folP okP tabP (Oracle.of_ok (Oracle.cons_ok ok_spec_l20Endpoint (Oracle.cons_ok ok_spec_l20Open (Oracle.cons_ok ok_spec_l20Waiter Oracle.nil_ok)))) lf_spec_DrawEndpointTake fun x => (w_spec_DrawEndpointTake x).trans (spec_DrawEndpointTake_eq x.1 _)
noncomputable def c_spec_DrawEndpointTake : Con := Con.shape [.one (.dat (.sl (.int .u8)))] [] (fun x => spec_DrawEndpointTake x.1) out_spec_DrawEndpointTake
theorem ok_spec_DrawEndpointTake : ConOk Try.prog 33 c_spec_DrawEndpointTake := Con.shape_ok sem_spec_DrawEndpointTake

/-! 12 -/
def C_laws_FnEndpointTake : Cfg := { T := tab, hint := fun _ => { mu := [3, 6, 7, 9, 10, 13], keepR := [0, 2, 3, 4, 5, 6, 7, 8, 9, 10, 11, 12, 13, 14, 17, 53, 54, 59, 70, 98], res := [2], order := [(12, [(0, .read), (1, .read), (2, .read), (3, .read), (4, .read), (5, .read), (6, .forced), (7, .forced), (8, .forced)]), (14, [(0, .forced), (1, .forced), (2, .forced), (3, .read), (4, .forced), (5, .forced), (6, .forced), (7, .forced), (8, .forced), (9, .forced), (10, .forced), (11, .forced), (12, .forced), (13, .forced), (14, .forced), (15, .read), (16, .read), (17, .read), (18, .forced), (19, .forced), (20, .forced), (21, .forced), (22, .forced), (23, .forced), (24, .forced)])], keepL := [(0, [3, 6, 7, 12])], keepX := [(0, [3, 6, 7]), (1, [3, 6, 7, 12])] }, mode := fun _ => .borrow }
noncomputable def O_laws_FnEndpointTake : Oracle := Oracle.of [(16, c_impl_EndpointValid), (19, c_laws_alive), (21, c_impl_EndpointCancel), (25, c_laws_sameEnd), (29, c_spec_EndpointTake), (30, c_impl_EndpointTake), (33, c_spec_DrawEndpointTake)]
def sh_laws_FnEndpointTake_l0 : List (Nat × S2) := [(3, .one (.ptr 0 0 0)), (6, .one (.ptr 1 0 0)), (7, .one (.ptr 2 0 0)), (12, .one (.dat I))]
def bs_laws_FnEndpointTake_l0 : List SB := [.var [.dat .bool, .dat (.sl tWaiter)], .var [.dat .bool, .dat (.sl tWaiter)], .one tWaiter]
noncomputable def lc_laws_FnEndpointTake_l0 : LCon := LCon.shape sh_laws_FnEndpointTake_l0 bs_laws_FnEndpointTake_l0 laws_FnEndpointTake_l0 (fun a => (.exit 0, encSt [(3, .one (.ptr 0 0 0)), (6, .one (.ptr 1 0 0)), (7, .one (.ptr 2 0 0))] [.var [.dat .bool, .dat (.sl tWaiter)], .var [.dat .bool, .dat (.sl tWaiter)], .one tWaiter] a)) (fun b => encSt [(2, .one (.dat .bool))] [] b)
noncomputable def L_laws_FnEndpointTake : Loops := Loops.of [(0, lc_laws_FnEndpointTake_l0)]
theorem r_laws_FnEndpointTake_l0 (x : FSt sh_laws_FnEndpointTake_l0 bs_laws_FnEndpointTake_l0) : roundK C_laws_FnEndpointTake.T (C_laws_FnEndpointTake.hint 12) C_laws_FnEndpointTake.mode O_laws_FnEndpointTake L_laws_FnEndpointTake 0 (lp Try.prog 12 0) (encSt sh_laws_FnEndpointTake_l0 bs_laws_FnEndpointTake_l0 x) (fun e s => some (e, s)) =
    laws_FnEndpointTake_l0K x.1 x.2.1 x.2.2.1 x.2.2.2.1 x.2.2.2.2.1 x.2.2.2.2.2.1 (fun y => some (Ex.normal, encSt sh_laws_FnEndpointTake_l0 bs_laws_FnEndpointTake_l0 y)) (fun a => some (Ex.exit 0, encSt [(3, .one (.ptr 0 0 0)), (6, .one (.ptr 1 0 0)), (7, .one (.ptr 2 0 0))] [.var [.dat .bool, .dat (.sl tWaiter)], .var [.dat .bool, .dat (.sl tWaiter)], .one tWaiter] a)) (fun b => some (Ex.ret, encSt [(2, .one (.dat .bool))] [] b)) := by kernel_rfl
theorem lo_laws_FnEndpointTake_l0 : LConOk C_laws_FnEndpointTake.T (C_laws_FnEndpointTake.hint 12) C_laws_FnEndpointTake.mode O_laws_FnEndpointTake L_laws_FnEndpointTake 0 (lp Try.prog 12 0) lc_laws_FnEndpointTake_l0 :=
  LCon.shape_ok (fun a => by simp) fun x => (r_laws_FnEndpointTake_l0 x).trans (laws_FnEndpointTake_l0_eq x.1 x.2.1 x.2.2.1 x.2.2.2.1 x.2.2.2.2.1 x.2.2.2.2.2.1 _ _ _)
theorem lf_laws_FnEndpointTake : LoopsFn Try.prog C_laws_FnEndpointTake O_laws_FnEndpointTake 12 L_laws_FnEndpointTake := LoopsFn.all (by kernel_rfl) (by decide) ⟨lo_laws_FnEndpointTake_l0, trivial⟩
def out_laws_FnEndpointTake (r : Bool) : AV × Store := out1 (.one (.dat .bool)) [] (r, ())
theorem w_laws_FnEndpointTake (x : FAr [.one (.dat (.sl (.int .u8)))] []) : evBodyK Try.prog C_laws_FnEndpointTake O_laws_FnEndpointTake L_laws_FnEndpointTake 12 (encAr [.one (.dat (.sl (.int .u8)))] [] x).1 (encAr [.one (.dat (.sl (.int .u8)))] [] x).2 (fun v s => some (v, s)) =
    laws_FnEndpointTakeK x.1 (fun r => some (out_laws_FnEndpointTake r)) := by kernel_rfl
theorem sem_laws_FnEndpointTake : ∀ x y, (fun x => laws_FnEndpointTake x.1) x = some y → SemCall Try.prog 12 (encAr [.one (.dat (.sl (.int .u8)))] [] x).1 (encAr [.one (.dat (.sl (.int .u8)))] [] x).2 (out_laws_FnEndpointTake y).1 (out_laws_FnEndpointTake y).2 :=
  sem_of folP okP tabP (Oracle.of_ok (Oracle.cons_ok ok_impl_EndpointValid (Oracle.cons_ok ok_laws_alive (Oracle.cons_ok ok_impl_EndpointCancel (Oracle.cons_ok ok_laws_sameEnd (Oracle.cons_ok ok_spec_EndpointTake (Oracle.cons_ok ok_impl_EndpointTake (Oracle.cons_ok ok_spec_DrawEndpointTake Oracle.nil_ok)))))))) lf_laws_FnEndpointTake fun x => (w_laws_FnEndpointTake x).trans (laws_FnEndpointTake_eq x.1 _)
noncomputable def c_laws_FnEndpointTake : Con := Con.shape [.one (.dat (.sl (.int .u8)))] [] (fun x => laws_FnEndpointTake x.1) out_laws_FnEndpointTake
theorem ok_laws_FnEndpointTake : ConOk Try.prog 12 c_laws_FnEndpointTake := Con.shape_ok sem_laws_FnEndpointTake

end Go.Ev
